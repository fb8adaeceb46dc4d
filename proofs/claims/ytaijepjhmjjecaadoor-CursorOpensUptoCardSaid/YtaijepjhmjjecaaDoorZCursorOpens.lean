/- CursorOpens: Open of any bytes: layer 8's error, or a cursor over just the postings: for arguments of bulk at most 1048576. -/
import Derived.Test.YtaijepjhmjjecaaDoorCards
import Derived.Test.YtaijepjhmjjecaaDoorTie
import Derived.Test.YtaijepjhmjjecaaDoorZG1
import Derived.Test.YtaijepjhmjjecaaDoorZG29
import Derived.Test.YtaijepjhmjjecaaDoorZG30
import Derived.Test.YtaijepjhmjjecaaDoorZG30
import Derived.JoinedCond
import Derived.SevenTiedAt
namespace Go.Proofs.YtaijepjhmjjecaaDoor.cursorOpens
open Go.ChangeShapes Go.WideShapes Go.ChangeAt Go.RowKit


theorem errs {W : World} (h : laidMetH Tryd.prog Rows.cursorOpensUptoRow.laid W) : ∃ EA, Errs W EA (errL24.map fun x => (x.1, x.2.1)) := by
  rw [MakeChecks.laidMetH_plain _ _ _ (by kernel_rfl)] at h
  exact errs_of_laid errL24 (by decide) h (by kernel_rfl)
theorem own : ownKnob Tryd.prog.godebug = none := by kernel_rfl
set_option maxRecDepth 100000 in
theorem contract (H : Type) (enc : TypeId × Value → H) (W : World) (base : Nat) (args : Array Value) (ds gs : List (DataW H)) (before : List MemPlace)
    (hval : ∀ (j : Nat) t v, Tryd.f5.params[j]? = some t → args[j]? = some v → Value.okWide Tryd.prog W .any base t v)
    (hW : DataW.Whole enc Tryd.prog Tryd.f5.params.toList Rows.cursorOpensSpec.vars false W args.toList ds gs before) (hk : Rows.uptoSmall H (ds ++ gs) = true) (hL : laidMetH Tryd.prog Rows.cursorOpensUptoRow.laid W) :
    Calls Tryd.prog 5 args W fun e W' => ∃ v, e = .returned v ∧ Rows.cursorOpensSpec.post enc Tryd.prog Tryd.f5 false true false false W args v W' := by
  obtain ⟨EA, hE⟩ := errs hL
  have hW' := hW
  have hlt := hW.lt
  obtain ⟨p, q, hA0, hV, rfl, hfz, hnd⟩ := hW
  have hA : DataW.TrodAll enc Tryd.prog W 0 (fun _ => true) true Tryd.f5.params.toList args.toList ds p := hA0
  obtain ⟨rfl, rfl⟩ := trodVars_none hV
  simp only [List.append_nil] at hW' hlt hk
  have hkeep : ∀ W', Below W.heap.size W W' → ∀ sp : Nat → Bool, (∀ x ∈ p, sp x.block = true) → DataW.TrodAll enc Tryd.prog W' 0 sp true Tryd.f5.params.toList args.toList ds p :=
    fun W' hb sp hsp => trodAll_keep (by kernel_rfl) hb sp _ _ _ _ (by kernel_rfl) hA hlt hsp
  rw [Tryd.params5] at hA hval
  obtain ⟨v0, vs0, d0, ds0, p0, q0, hargs, rfl, rfl, h0, r0⟩ := trodAll_cons hA
  obtain ⟨rfl, rfl, rfl⟩ := trodAll_nil r0
  obtain rfl : args = #[v0] := by cases args; simp_all
  obtain ⟨fux, hfx⟩ := h0
  obtain ⟨a1, k1, c1, rfl⟩ := okWide_slice Tryd.underlying30 (hval 0 30 v0 rfl rfl)
  obtain ⟨v, bs, hv, hr, hn⟩ := open_bytes Tryd.underlying30 Tryd.underlying5 (by kernel_rfl) hfx
  have hv' : v = .slice a1 k1 c1 := by simpa [Value.cells] using hv.symm
  subst hv'
  have hbd : Rows.uptoBulkAll [d0] ≤ 1048576 := of_decide_eq_true hk
  simp only [Rows.uptoBulkAll] at hbd
  have hn' : bs.length + 1 ≤ Rows.uptoBulk d0 := hn
  have hS := sent_of hE

  refine (cursorOpens_walk W a1 k1 c1 bs hr (by omega) EA hS).mono fun e W' ⟨he, hg⟩ => ?_
  subst he
  exact ⟨_, rfl, post_below (pa := _) (pv := []) hW' (fun _ _ _ => (trodAll_cons_mk (shut_bool Tryd.underlying4 _) trodAll_mk0)) (fun sp hsp => hkeep W' hg sp hsp) (fun _ _ => rfl) (by simp)
    hg (ok_one (by kernel_rfl) rfl (okWide_bool_mk Tryd.underlying4 _))⟩

theorem laid_met (os : Os) (args : Array Value) : laidMetH Tryd.prog Rows.cursorOpensUptoRow.laid ((World.laidAll Tryd.prog os Rows.cursorOpensUptoRow.laid).forCall (fun _ _ => 0) ⟨#[], args, []⟩).memory := by
  rw [MakeChecks.laidMetH_plain _ _ _ (by kernel_rfl)]; exact laidMet_laidAll _ (by kernel_rfl) (by kernel_rfl)
set_option maxRecDepth 100000 in
theorem lifted (os : Os) (started : os.Started) (H : Type) (enc : TypeId × Value → H) (F : Stop.Interp) :
    ReturnsInHanded {} Tryd.checked os 5 .any ((Rows.OpenSpec.upto Rows.cursorOpensSpec).preRow enc Tryd.prog Tryd.f5 Rows.cursorOpensUptoRow.domain false Rows.cursorOpensUptoRow.laid) (((Rows.OpenSpec.upto Rows.cursorOpensSpec).at F).post enc Tryd.prog Tryd.f5 false true false false) := by
  refine returnsInHanded_of_row (C := Tryd.checked) (s := Rows.OpenSpec.upto Rows.cursorOpensSpec) own started (by kernel_rfl) Tryd.func5
    (witness_row_shaped (enc := enc) (C := Tryd.checked) (World.laidAll Tryd.prog os Rows.cursorOpensUptoRow.laid) #[.slice none 0 0] (World.laidAll_os _ _ _)
      (World.shaped_of_ZipB (by kernel_rfl) (by kernel_rfl)) (by kernel_rfl)
      (OpenSpec.preRow_of_cond 8 (x := ([.nil], [], [])) (by kernel_rfl) (by kernel_rfl) (fun k hk => by cases hk; kernel_rfl) (by kernel_rfl) (laid_met os _))) ?_
  intro W base args ds gs before hval hW _ hcond _ hL _ _
  exact contract H enc W base args ds gs before hval hW (hcond _ rfl) hL

theorem said : Rows.CursorOpensUptoSaid :=
  OpenClaim.holds_of_cond 5 Tryd.f5 rfl rfl rfl rfl rfl rfl rfl ⟨rfl, rfl, rfl, rfl, rfl⟩ rfl rfl rfl rfl rfl (by kernel_rfl) Tryd.func5 (by kernel_rfl)
    (of_decide_eq_true (by kernel_rfl)) (by unfold Func.isWrapper; first | (rw [if_pos (by decide +kernel)]; kernel_rfl) | (rw [if_neg (by decide +kernel)]; exact ⟨rfl, rfl⟩))
    (fun os started H enc _ F => by rw [OpenClaim.pre_eq_preRow]; exact lifted os started H enc F)
/-- No parameter wants a stand-in; the program's own looks are off: what the card asks. -/
theorem plain (f : FuncId) (fn : Func) (hf : Tryd.pinned.checked.prog.funcNamed "concord/concordlaw09.CursorOpens" = some f) (hfn : Tryd.pinned.checked.prog.funcs[f]? = some fn) :
    true = Tryd.pinned.checked.prog.looks [] ∧ ∀ (j : Nat) t, fn.params[j]? = some t → Tryd.pinned.checked.prog.wantsStandIn t = false := by
  obtain rfl : f = 5 := Option.some.inj ((show Tryd.prog.funcNamed "concord/concordlaw09.CursorOpens" = some 5 by kernel_rfl).symm.trans hf) |>.symm
  obtain rfl : fn = Tryd.f5 := (Option.some.inj (Tryd.func5.symm.trans hfn)).symm
  refine ⟨by kernel_rfl, fun j t ht => ?_⟩
  rw [Tryd.params5] at ht
  have hm := Array.mem_of_getElem? ht
  have hall : (#[30] : Array TypeId).all (fun t => Tryd.prog.wantsStandIn t == false) = true := by kernel_rfl
  have h2 := Array.all_eq_true_iff_forall_mem.1 hall t hm
  have h3 : Tryd.prog.wantsStandIn t = false := by simpa using h2
  exact h3
/-- The second form's card. -/
theorem proved : Rows.CursorOpensUptoCardSaid :=
  Claim7.holds_tied_plain_at .later [] _ _ _ _ said (fun _ h => by cases h) (by kernel_rfl) (fun _ h => by cases h) cursorOpensUpto_row_tie rfl ⟨rfl, rfl⟩ (by kernel_rfl) rfl plain (by kernel_rfl)
end Go.Proofs.YtaijepjhmjjecaaDoor.cursorOpens
