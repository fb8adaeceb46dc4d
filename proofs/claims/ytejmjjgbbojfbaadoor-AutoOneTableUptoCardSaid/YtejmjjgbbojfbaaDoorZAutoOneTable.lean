/- AutoOneTable: automata of one language have one table: for arguments of bulk at most 1048576. -/
import Derived.Test.YtejmjjgbbojfbaaDoorCards
import Derived.Test.YtejmjjgbbojfbaaDoorTie
import Derived.Test.YtejmjjgbbojfbaaDoorZG1
import Derived.Test.YtejmjjgbbojfbaaDoorZOneF
import Derived.JoinedCond
import Derived.SevenTiedAt
namespace Go.Proofs.YtejmjjgbbojfbaaDoor.autoOneTable
open Go.ChangeShapes Go.WideShapes Go.ChangeAt Go.RowKit

def errL : List (Nat × String × List UInt8) := [(8, "concord/api.ErrRange", [99, 111, 110, 99, 111, 114, 100, 58, 32, 114, 97, 110, 103, 101]), (14, "concord/api.ErrPattern", [99, 111, 110, 99, 111, 114, 100, 58, 32, 112, 97, 116, 116, 101, 114, 110]), (15, "concord/api.ErrStates", [99, 111, 110, 99, 111, 114, 100, 58, 32, 115, 116, 97, 116, 101, 115])]
theorem errs {W : World} (h : laidMetH Tryd.prog Rows.autoOneTableUptoRow.laid W) : ∃ EA, Errs W EA (errL.map fun x => (x.1, x.2.1)) := by
  rw [MakeChecks.laidMetH_plain _ _ _ (by kernel_rfl)] at h
  exact errs_of_laid errL (by decide) h (by kernel_rfl)
theorem own : ownKnob Tryd.prog.godebug = none := by kernel_rfl
set_option maxRecDepth 100000 in
theorem contract (H : Type) (enc : TypeId × Value → H) (W : World) (base : Nat) (args : Array Value) (ds gs : List (DataW H)) (before : List MemPlace)
    (hval : ∀ (j : Nat) t v, Tryd.f8.params[j]? = some t → args[j]? = some v → Value.okWide Tryd.prog W .any base t v)
    (hW : DataW.Whole enc Tryd.prog Tryd.f8.params.toList Rows.autoOneTableSpec.vars false W args.toList ds gs before) (hk : Rows.uptoSmall H (ds ++ gs) = true) (hL : laidMetH Tryd.prog Rows.autoOneTableUptoRow.laid W) :
    Calls Tryd.prog 8 args W fun e W' => ∃ v, e = .returned v ∧ Rows.autoOneTableSpec.post enc Tryd.prog Tryd.f8 false true false false W args v W' := by
  obtain ⟨EA, hE⟩ := errs hL
  have hW' := hW
  have hlt := hW.lt
  obtain ⟨p, q, hA0, hV, rfl, hfz, hnd⟩ := hW
  have hA : DataW.TrodAll enc Tryd.prog W 0 (fun _ => true) true Tryd.f8.params.toList args.toList ds p := hA0
  obtain ⟨rfl, rfl⟩ := trodVars_none hV
  simp only [List.append_nil] at hW' hlt hk
  have hkeep : ∀ W', Below W.heap.size W W' → ∀ sp : Nat → Bool, (∀ x ∈ p, sp x.block = true) → DataW.TrodAll enc Tryd.prog W' 0 sp true Tryd.f8.params.toList args.toList ds p :=
    fun W' hb sp hsp => trodAll_keep (by kernel_rfl) hb sp _ _ _ _ (by kernel_rfl) hA hlt hsp
  rw [Tryd.params8] at hA hval
  obtain ⟨v0, vs0, d0, ds0, p0, q0, hargs, rfl, rfl, h0, r0⟩ := trodAll_cons hA
  obtain ⟨v1, vs1, d1, ds1, p1, q1, rfl, rfl, rfl, h1, r1⟩ := trodAll_cons r0
  obtain ⟨rfl, rfl, rfl⟩ := trodAll_nil r1
  obtain rfl : args = #[v0, v1] := by cases args; simp_all
  obtain ⟨fux, hfx⟩ := h0
  obtain ⟨wordx, rfl⟩ := okWide_string Tryd.underlying9 (hval 0 9 v0 rfl rfl)
  obtain ⟨sx, hsx, hdx, -⟩ := DataW.trod_string Tryd.underlying9 hfx
  obtain rfl : wordx = sx := by simpa [Value.cells] using hsx
  have hdx' : d0 = .lit (.string wordx.data.toList) := by simp only [Prod.mk.injEq] at hdx; exact hdx.1
  have hwx : wordx.size + 1 ≤ Rows.uptoBulk d0 := by
    rw [hdx']
    have h2 : wordx.size = wordx.data.toList.length := (Array.length_toList (xs := wordx.data)).symm
    simp only [Rows.uptoBulk]
    omega
  obtain ⟨fuy, hfy⟩ := h1
  obtain ⟨wordy, rfl⟩ := okWide_string Tryd.underlying9 (hval 1 9 v1 rfl rfl)
  obtain ⟨sy, hsy, hdy, -⟩ := DataW.trod_string Tryd.underlying9 hfy
  obtain rfl : wordy = sy := by simpa [Value.cells] using hsy
  have hdy' : d1 = .lit (.string wordy.data.toList) := by simp only [Prod.mk.injEq] at hdy; exact hdy.1
  have hwy : wordy.size + 1 ≤ Rows.uptoBulk d1 := by
    rw [hdy']
    have h2 : wordy.size = wordy.data.toList.length := (Array.length_toList (xs := wordy.data)).symm
    simp only [Rows.uptoBulk]
    omega
  have hbd : Rows.uptoBulk d0 ≤ 1048576 ∧ Rows.uptoBulk d1 ≤ 1048576 := by
    have h : Rows.uptoBulkAll [d0, d1] ≤ 1048576 := of_decide_eq_true hk
    simp only [Rows.uptoBulkAll] at h
    omega
  refine (onetable_any W wordx wordy EA (hE.cell (k := 15) (n := "concord/api.ErrStates") (by decide) (by kernel_rfl)) (by omega) (by omega)).mono fun e W' ⟨he, hg⟩ => ?_
  subst he
  exact ⟨_, rfl, post_below (pa := _) (pv := []) hW' (fun _ _ _ => (trodAll_cons_mk (shut_bool Tryd.underlying4 _) trodAll_mk0)) (fun sp hsp => hkeep W' hg sp hsp) (fun _ _ => rfl) (by simp)
    hg (ok_one (by kernel_rfl) rfl (okWide_bool_mk Tryd.underlying4 _))⟩

theorem laid_met (os : Os) (args : Array Value) : laidMetH Tryd.prog Rows.autoOneTableUptoRow.laid ((World.laidAll Tryd.prog os Rows.autoOneTableUptoRow.laid).forCall (fun _ _ => 0) ⟨#[], args, []⟩).memory := by
  rw [MakeChecks.laidMetH_plain _ _ _ (by kernel_rfl)]; exact laidMet_laidAll _ (by kernel_rfl) (by kernel_rfl)
set_option maxRecDepth 100000 in
theorem lifted (os : Os) (started : os.Started) (H : Type) (enc : TypeId × Value → H) (F : Stop.Interp) :
    ReturnsInHanded {} Tryd.checked os 8 .any ((Rows.OpenSpec.upto Rows.autoOneTableSpec).preRow enc Tryd.prog Tryd.f8 Rows.autoOneTableUptoRow.domain false Rows.autoOneTableUptoRow.laid) (((Rows.OpenSpec.upto Rows.autoOneTableSpec).at F).post enc Tryd.prog Tryd.f8 false true false false) := by
  refine returnsInHanded_of_row (C := Tryd.checked) (s := Rows.OpenSpec.upto Rows.autoOneTableSpec) own started (by kernel_rfl) Tryd.func8
    (witness_row_shaped (enc := enc) (C := Tryd.checked) (World.laidAll Tryd.prog os Rows.autoOneTableUptoRow.laid) #[.string ⟨#[]⟩, .string ⟨#[]⟩] (World.laidAll_os _ _ _)
      (World.shaped_of_ZipB (by kernel_rfl) (by kernel_rfl)) (by kernel_rfl)
      (OpenSpec.preRow_of_cond 8 (x := ([.lit (.string []), .lit (.string [])], [], [])) (by kernel_rfl) (by kernel_rfl) (fun k hk => by cases hk; kernel_rfl) (by kernel_rfl) (laid_met os _))) ?_
  intro W base args ds gs before hval hW _ hcond _ hL _ _
  exact contract H enc W base args ds gs before hval hW (hcond _ rfl) hL

theorem said : Rows.AutoOneTableUptoSaid :=
  OpenClaim.holds_of_cond 8 Tryd.f8 rfl rfl rfl rfl rfl rfl rfl ⟨rfl, rfl, rfl, rfl, rfl⟩ rfl rfl rfl rfl rfl (by kernel_rfl) Tryd.func8 (by kernel_rfl)
    (of_decide_eq_true (by kernel_rfl)) (by unfold Func.isWrapper; first | (rw [if_pos (by decide +kernel)]; kernel_rfl) | (rw [if_neg (by decide +kernel)]; exact ⟨rfl, rfl⟩))
    (fun os started H enc _ F => by rw [OpenClaim.pre_eq_preRow]; exact lifted os started H enc F)
/-- No parameter wants a stand-in; the program's own looks are off: what the card asks. -/
theorem plain (f : FuncId) (fn : Func) (hf : Tryd.pinned.checked.prog.funcNamed "concord/concordlaw07.AutoOneTable" = some f) (hfn : Tryd.pinned.checked.prog.funcs[f]? = some fn) :
    true = Tryd.pinned.checked.prog.looks [] ∧ ∀ (j : Nat) t, fn.params[j]? = some t → Tryd.pinned.checked.prog.wantsStandIn t = false := by
  obtain rfl : f = 8 := Option.some.inj ((show Tryd.prog.funcNamed "concord/concordlaw07.AutoOneTable" = some 8 by kernel_rfl).symm.trans hf) |>.symm
  obtain rfl : fn = Tryd.f8 := (Option.some.inj (Tryd.func8.symm.trans hfn)).symm
  refine ⟨by kernel_rfl, fun j t ht => ?_⟩
  rw [Tryd.params8] at ht
  have hm := Array.mem_of_getElem? ht
  have hall : (#[9, 9] : Array TypeId).all (fun t => Tryd.prog.wantsStandIn t == false) = true := by kernel_rfl
  have h2 := Array.all_eq_true_iff_forall_mem.1 hall t hm
  have h3 : Tryd.prog.wantsStandIn t = false := by simpa using h2
  exact h3
/-- The second form's card. -/
theorem proved : Rows.AutoOneTableUptoCardSaid :=
  Claim7.holds_tied_plain_at .later [] _ _ _ _ said (fun _ h => by cases h) (by kernel_rfl) (fun _ h => by cases h) autoOneTableUpto_row_tie rfl ⟨rfl, rfl⟩ (by kernel_rfl) rfl plain (by kernel_rfl)
end Go.Proofs.YtejmjjgbbojfbaaDoor.autoOneTable
