/- AutoLeast: a table is the least one, numbered as its states are met: for arguments of bulk at most 1048576. -/
import Derived.Test.YtejmjjgbbojfbaaDoorCards
import Derived.Test.YtejmjjgbbojfbaaDoorTie
import Derived.Test.YtejmjjgbbojfbaaDoorZAutoLeastF
import Derived.Test.YtejmjjgbbojfbaaDoorZG10
import Derived.Test.YtejmjjgbbojfbaaDoorZG5
import Derived.Test.YtejmjjgbbojfbaaDoorZOpenOf
import Derived.JoinedCond
import Derived.SevenTiedAt
namespace Go.Proofs.YtejmjjgbbojfbaaDoor.autoLeast
open Go.ChangeShapes Go.WideShapes Go.ChangeAt Go.RowKit

theorem errs {W : World} (h : laidMetH Tryd.prog Rows.autoLeastUptoRow.laid W) : ∃ EA, Sent W EA := by
  rw [MakeChecks.laidMetH_plain _ _ _ (by kernel_rfl)] at h
  obtain ⟨EA, hE⟩ := errs_of_laid errL24 (by decide) h (by kernel_rfl)
  exact ⟨EA, sent_of hE⟩
theorem own : ownKnob Tryd.prog.godebug = none := by kernel_rfl
set_option maxRecDepth 100000 in
theorem contract (H : Type) (enc : TypeId × Value → H) (W : World) (base : Nat) (args : Array Value) (ds gs : List (DataW H)) (before : List MemPlace)
    (hval : ∀ (j : Nat) t v, Tryd.f10.params[j]? = some t → args[j]? = some v → Value.okWide Tryd.prog W .any base t v)
    (hW : DataW.Whole enc Tryd.prog Tryd.f10.params.toList Rows.autoLeastSpec.vars false W args.toList ds gs before) (hk : Rows.uptoSmall H (ds ++ gs) = true) (hL : laidMetH Tryd.prog Rows.autoLeastUptoRow.laid W) :
    Calls Tryd.prog 10 args W fun e W' => ∃ v, e = .returned v ∧ Rows.autoLeastSpec.post enc Tryd.prog Tryd.f10 false true false false W args v W' := by
  obtain ⟨EA, hE⟩ := errs hL
  have hW' := hW
  have hlt := hW.lt
  obtain ⟨p, q, hA0, hV, rfl, hfz, hnd⟩ := hW
  have hA : DataW.TrodAll enc Tryd.prog W 0 (fun _ => true) true Tryd.f10.params.toList args.toList ds p := hA0
  obtain ⟨rfl, rfl⟩ := trodVars_none hV
  simp only [List.append_nil] at hW' hlt hk
  have hkeep : ∀ W', Below W.heap.size W W' → ∀ sp : Nat → Bool, (∀ x ∈ p, sp x.block = true) → DataW.TrodAll enc Tryd.prog W' 0 sp true Tryd.f10.params.toList args.toList ds p :=
    fun W' hb sp hsp => trodAll_keep (by kernel_rfl) hb sp _ _ _ _ (by kernel_rfl) hA hlt hsp
  rw [Tryd.params10] at hA hval
  obtain ⟨v0, vs0, d0, ds0, p0, q0, hargs, rfl, rfl, h0, r0⟩ := trodAll_cons hA
  obtain ⟨rfl, rfl, rfl⟩ := trodAll_nil r0
  obtain rfl : args = #[v0] := by cases args; simp_all
  obtain ⟨fu0, hf0⟩ := h0
  obtain ⟨cs0, rfl, hcs0⟩ := okWide_struct Tryd.underlying37 (hval 0 37 v0 rfl rfl)
  obtain ⟨o, ho, -, -, z1, z2, z3⟩ := open_of Tryd.underlying37 (by kernel_rfl) ⟨rfl, by kernel_rfl⟩ ⟨rfl, by kernel_rfl⟩ ⟨rfl, by kernel_rfl⟩ ⟨rfl, by kernel_rfl⟩ ⟨rfl, by kernel_rfl⟩ Tryd.underlying3 Tryd.underlying9 Tryd.underlying3 rfl rfl Tryd.underlying35 (by kernel_rfl) (by kernel_rfl) Tryd.underlying4 Tryd.underlying4 Tryd.underlying9 hf0
  have hbound : Rows.uptoBulk d0 ≤ 1048576 := by
    have h : Rows.uptoBulkAll [d0] ≤ 1048576 := of_decide_eq_true hk
    simp only [Rows.uptoBulkAll] at h
    omega
  have z1' : o.s.size + 1 ≤ Rows.uptoBulk d0 := z1
  have z2' : o.ls.size + 1 ≤ Rows.uptoBulk d0 := z2
  have z3' : o.hs.size + 1 ≤ Rows.uptoBulk d0 := z3
  have hcs : cs0 = o.cells.toArray := by
    have h : cs0.toList = o.cells := by simpa [Value.cells] using ho
    rw [← h]
  subst hcs
  refine (autoleast_walk W o (by omega) (by omega) (by omega) EA hE).mono fun e W' ⟨he, hg⟩ => ?_
  subst he
  exact ⟨_, rfl, post_below (pa := _) (pv := []) hW' (fun _ _ _ => (trodAll_cons_mk (shut_bool Tryd.underlying4 _) trodAll_mk0)) (fun sp hsp => hkeep W' hg sp hsp) (fun _ _ => rfl) (by simp)
    hg (ok_one (by kernel_rfl) rfl (okWide_bool_mk Tryd.underlying4 _))⟩

theorem laid_met (os : Os) (args : Array Value) : laidMetH Tryd.prog Rows.autoLeastUptoRow.laid ((World.laidAll Tryd.prog os Rows.autoLeastUptoRow.laid).forCall (fun _ _ => 0) ⟨#[], args, []⟩).memory := by
  rw [MakeChecks.laidMetH_plain _ _ _ (by kernel_rfl)]; exact laidMet_laidAll _ (by kernel_rfl) (by kernel_rfl)
set_option maxRecDepth 100000 in
theorem lifted (os : Os) (started : os.Started) (H : Type) (enc : TypeId × Value → H) (F : Stop.Interp) :
    ReturnsInHanded {} Tryd.checked os 10 .any ((Rows.OpenSpec.upto Rows.autoLeastSpec).preRow enc Tryd.prog Tryd.f10 Rows.autoLeastUptoRow.domain false Rows.autoLeastUptoRow.laid) (((Rows.OpenSpec.upto Rows.autoLeastSpec).at F).post enc Tryd.prog Tryd.f10 false true false false) := by
  refine returnsInHanded_of_row (C := Tryd.checked) (s := Rows.OpenSpec.upto Rows.autoLeastSpec) own started (by kernel_rfl) Tryd.func10
    (witness_row_shaped (enc := enc) (C := Tryd.checked) (World.laidAll Tryd.prog os Rows.autoLeastUptoRow.laid) #[.agg #[.int .i64 0, .string ⟨#[]⟩, .int .i64 0, .bool false, .bool false, .string ⟨#[]⟩, .bool false, .bool false, .string ⟨#[]⟩]] (World.laidAll_os _ _ _)
      (World.shaped_of_ZipB (by kernel_rfl) (by kernel_rfl)) (by kernel_rfl)
      (OpenSpec.preRow_of_cond 8 (x := ([.agg [.lit (.int .i64 0), .lit (.string []), .lit (.int .i64 0), .agg [.lit (.bool false), .lit (.bool false), .lit (.string [])], .agg [.lit (.bool false), .lit (.bool false), .lit (.string [])]]], [], [])) (by kernel_rfl) (by kernel_rfl) (fun k hk => by cases hk; kernel_rfl) (by kernel_rfl) (laid_met os _))) ?_
  intro W base args ds gs before hval hW _ hcond _ hL _ _
  exact contract H enc W base args ds gs before hval hW (hcond _ rfl) hL

theorem said : Rows.AutoLeastUptoSaid :=
  OpenClaim.holds_of_cond 10 Tryd.f10 rfl rfl rfl rfl rfl rfl rfl ⟨rfl, rfl, rfl, rfl, rfl⟩ rfl rfl rfl rfl rfl (by kernel_rfl) Tryd.func10 (by kernel_rfl)
    (of_decide_eq_true (by kernel_rfl)) (by unfold Func.isWrapper; first | (rw [if_pos (by decide +kernel)]; kernel_rfl) | (rw [if_neg (by decide +kernel)]; exact ⟨rfl, rfl⟩))
    (fun os started H enc _ F => by rw [OpenClaim.pre_eq_preRow]; exact lifted os started H enc F)
/-- No parameter wants a stand-in; the program's own looks are off: what the card asks. -/
theorem plain (f : FuncId) (fn : Func) (hf : Tryd.pinned.checked.prog.funcNamed "concord/concordlaw07.AutoLeast" = some f) (hfn : Tryd.pinned.checked.prog.funcs[f]? = some fn) :
    true = Tryd.pinned.checked.prog.looks [] ∧ ∀ (j : Nat) t, fn.params[j]? = some t → Tryd.pinned.checked.prog.wantsStandIn t = false := by
  obtain rfl : f = 10 := Option.some.inj ((show Tryd.prog.funcNamed "concord/concordlaw07.AutoLeast" = some 10 by kernel_rfl).symm.trans hf) |>.symm
  obtain rfl : fn = Tryd.f10 := (Option.some.inj (Tryd.func10.symm.trans hfn)).symm
  refine ⟨by kernel_rfl, fun j t ht => ?_⟩
  rw [Tryd.params10] at ht
  have hm := Array.mem_of_getElem? ht
  have hall : (#[37] : Array TypeId).all (fun t => Tryd.prog.wantsStandIn t == false) = true := by kernel_rfl
  have h2 := Array.all_eq_true_iff_forall_mem.1 hall t hm
  have h3 : Tryd.prog.wantsStandIn t = false := by simpa using h2
  exact h3
/-- The second form's card. -/
theorem proved : Rows.AutoLeastUptoCardSaid :=
  Claim7.holds_tied_plain_at .later [] _ _ _ _ said (fun _ h => by cases h) (by kernel_rfl) (fun _ h => by cases h) autoLeastUpto_row_tie rfl ⟨rfl, rfl⟩ (by kernel_rfl) rfl plain (by kernel_rfl)
end Go.Proofs.YtejmjjgbbojfbaaDoor.autoLeast
