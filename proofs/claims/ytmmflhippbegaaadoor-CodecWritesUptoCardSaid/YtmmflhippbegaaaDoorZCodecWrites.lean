/- CodecWrites: two Writers in turns: every Len and Bytes, every error; what was handed in is written over at once, what was handed out stays, in memory of its own: for arguments of bulk at most 1048576. -/
import Derived.Test.YtmmflhippbegaaaDoorCards
import Derived.Test.YtmmflhippbegaaaDoorTie
import Derived.Test.YtmmflhippbegaaaDoorZG3
import Derived.Test.YtmmflhippbegaaaDoorZWrites
import Derived.Test.YtmmflhippbegaaaDoorZG5
import Derived.Test.YtmmflhippbegaaaDoorZSent
import Derived.JoinedCond
import Derived.SevenTiedAt
namespace Go.Proofs.YtmmflhippbegaaaDoor.codecWrites
open Go.ChangeShapes Go.WideShapes Go.ChangeAt Go.RowKit


theorem errs {W : World} (h : laidMetH Tryd.prog Rows.codecWritesUptoRow.laid W) : ∃ EA, Errs W EA (errL24.map fun x => (x.1, x.2.1)) := by
  rw [MakeChecks.laidMetH_plain _ _ _ (by kernel_rfl)] at h
  exact errs_of_laid errL24 (by decide) h (by kernel_rfl)
theorem own : ownKnob Tryd.prog.godebug = none := by kernel_rfl
set_option maxRecDepth 100000 in
theorem contract (H : Type) (enc : TypeId × Value → H) (W : World) (base : Nat) (args : Array Value) (ds gs : List (DataW H)) (before : List MemPlace)
    (hval : ∀ (j : Nat) t v, Tryd.f4.params[j]? = some t → args[j]? = some v → Value.okWide Tryd.prog W .any base t v)
    (hW : DataW.Whole enc Tryd.prog Tryd.f4.params.toList Rows.codecWritesSpec.vars false W args.toList ds gs before) (hk : Rows.uptoSmall H (ds ++ gs) = true) (hL : laidMetH Tryd.prog Rows.codecWritesUptoRow.laid W) :
    Calls Tryd.prog 4 args W fun e W' => ∃ v, e = .returned v ∧ Rows.codecWritesSpec.post enc Tryd.prog Tryd.f4 false true false false W args v W' := by
  obtain ⟨EA, hE⟩ := errs hL
  have hW' := hW
  have hlt := hW.lt
  obtain ⟨p, q, hA0, hV, rfl, hfz, hnd⟩ := hW
  have hA : DataW.TrodAll enc Tryd.prog W 0 (fun _ => true) true Tryd.f4.params.toList args.toList ds p := hA0
  obtain ⟨rfl, rfl⟩ := trodVars_none hV
  simp only [List.append_nil] at hW' hlt hk
  have hkeep : ∀ W', Below W.heap.size W W' → ∀ sp : Nat → Bool, (∀ x ∈ p, sp x.block = true) → DataW.TrodAll enc Tryd.prog W' 0 sp true Tryd.f4.params.toList args.toList ds p :=
    fun W' hb sp hsp => trodAll_keep (by kernel_rfl) hb sp _ _ _ _ (by kernel_rfl) hA hlt hsp
  rw [Tryd.params4] at hA hval
  obtain ⟨v0, vs0, d0, ds0, p0, q0, hargs, rfl, rfl, h0, r0⟩ := trodAll_cons hA
  obtain ⟨rfl, rfl, rfl⟩ := trodAll_nil r0
  obtain rfl : args = #[v0] := by cases args; simp_all
  obtain ⟨fu0, hf0⟩ := h0
  obtain ⟨a1, k1, c1, rfl⟩ := okWide_slice Tryd.underlying36 (hval 0 36 v0 rfl rfl)
  obtain ⟨a, n, c, ops, hv2, hops, hok, hn2, hwg⟩ := open_ops_w Tryd.underlying36 Tryd.underlying46 (by kernel_rfl) (by kernel_rfl) Tryd.underlying3 Tryd.underlying4 Tryd.underlying3 Tryd.underlying22 Tryd.underlying2 Tryd.underlying37 Tryd.underlying5 (by kernel_rfl) Tryd.underlying9 Tryd.underlying23 Tryd.underlying3 (by kernel_rfl) hf0
  have hv2' : Value.slice a n c = .slice a1 k1 c1 := by simpa [Value.cells] using hv2.symm
  injection hv2' with e1 e2 e3
  subst e1 e2 e3
  have hbound : Rows.uptoBulk d0 ≤ 1048576 := by
    have h : Rows.uptoBulkAll [d0] ≤ 1048576 := of_decide_eq_true hk
    simp only [Rows.uptoBulkAll] at h
    omega
  have hn2' : ops.length + 1 ≤ Rows.uptoBulk d0 := hn2
  have hwg' : (ops.map wgt).sum ≤ Rows.uptoBulk d0 := hwg
  have hex : ∀ o : OpV, ∃ x : List UInt8 × List Int, o ∈ ops → OpRd W W.heap.size o x.1 x.2 := fun o => by
    by_cases h : o ∈ ops
    · obtain ⟨bl, l, h2⟩ := (hok o h).rd hbound
      exact ⟨(bl, l), fun _ => h2⟩
    · exact ⟨([], []), fun h2 => absurd h2 h⟩
  obtain ⟨f, hf⟩ := Classical.axiomOfChoice hex
  have hS := sent_of hE
  have hRE : RErr W EA := ⟨hE.cell (k := 1) (n := "concord/api.ErrShort") (by decide) (by kernel_rfl), hE.cell (k := 2) (n := "concord/api.ErrVarint") (by decide) (by kernel_rfl), hE.cell (k := 3) (n := "concord/api.ErrLimit") (by decide) (by kernel_rfl), hE.cell (k := 4) (n := "concord/api.ErrOrder") (by decide) (by kernel_rfl), hE.cell (k := 8) (n := "concord/api.ErrRange") (by decide) (by kernel_rfl)⟩
  refine (writes_walk W a n c ops hops (by omega) (fun o => (f o).1) (fun o => (f o).2) hf (by omega) EA hS hRE).mono fun e W' ⟨he, hg⟩ => ?_
  subst he
  exact ⟨_, rfl, post_below (pa := _) (pv := []) hW' (fun _ _ _ => (trodAll_cons_mk (shut_bool Tryd.underlying4 _) trodAll_mk0)) (fun sp hsp => hkeep W' hg sp hsp) (fun _ _ => rfl) (by simp)
    hg (ok_one (by kernel_rfl) rfl (okWide_bool_mk Tryd.underlying4 _))⟩

theorem laid_met (os : Os) (args : Array Value) : laidMetH Tryd.prog Rows.codecWritesUptoRow.laid ((World.laidAll Tryd.prog os Rows.codecWritesUptoRow.laid).forCall (fun _ _ => 0) ⟨#[], args, []⟩).memory := by
  rw [MakeChecks.laidMetH_plain _ _ _ (by kernel_rfl)]; exact laidMet_laidAll _ (by kernel_rfl) (by kernel_rfl)
set_option maxRecDepth 100000 in
theorem lifted (os : Os) (started : os.Started) (H : Type) (enc : TypeId × Value → H) (F : Stop.Interp) :
    ReturnsInHanded {} Tryd.checked os 4 .any ((Rows.OpenSpec.upto Rows.codecWritesSpec).preRow enc Tryd.prog Tryd.f4 Rows.codecWritesUptoRow.domain false Rows.codecWritesUptoRow.laid) (((Rows.OpenSpec.upto Rows.codecWritesSpec).at F).post enc Tryd.prog Tryd.f4 false true false false) := by
  refine returnsInHanded_of_row (C := Tryd.checked) (s := Rows.OpenSpec.upto Rows.codecWritesSpec) own started (by kernel_rfl) Tryd.func4
    (witness_row_shaped (enc := enc) (C := Tryd.checked) (World.laidAll Tryd.prog os Rows.codecWritesUptoRow.laid) #[.slice none 0 0] (World.laidAll_os _ _ _)
      (World.shaped_of_ZipB (by kernel_rfl) (by kernel_rfl)) (by kernel_rfl)
      (OpenSpec.preRow_of_cond 8 (x := ([.nil], [], [])) (by kernel_rfl) (by kernel_rfl) (fun k hk => by cases hk; kernel_rfl) (by kernel_rfl) (laid_met os _))) ?_
  intro W base args ds gs before hval hW _ hcond _ hL _ _
  exact contract H enc W base args ds gs before hval hW (hcond _ rfl) hL

theorem said : Rows.CodecWritesUptoSaid :=
  OpenClaim.holds_of_cond 4 Tryd.f4 rfl rfl rfl rfl rfl rfl rfl ⟨rfl, rfl, rfl, rfl, rfl⟩ rfl rfl rfl rfl rfl (by kernel_rfl) Tryd.func4 (by kernel_rfl)
    (of_decide_eq_true (by kernel_rfl)) (by unfold Func.isWrapper; first | (rw [if_pos (by decide +kernel)]; kernel_rfl) | (rw [if_neg (by decide +kernel)]; exact ⟨rfl, rfl⟩))
    (fun os started H enc _ F => by rw [OpenClaim.pre_eq_preRow]; exact lifted os started H enc F)
/-- No parameter wants a stand-in; the program's own looks are off: what the card asks. -/
theorem plain (f : FuncId) (fn : Func) (hf : Tryd.pinned.checked.prog.funcNamed "concord/concordlaw01.CodecWrites" = some f) (hfn : Tryd.pinned.checked.prog.funcs[f]? = some fn) :
    true = Tryd.pinned.checked.prog.looks [] ∧ ∀ (j : Nat) t, fn.params[j]? = some t → Tryd.pinned.checked.prog.wantsStandIn t = false := by
  obtain rfl : f = 4 := Option.some.inj ((show Tryd.prog.funcNamed "concord/concordlaw01.CodecWrites" = some 4 by kernel_rfl).symm.trans hf) |>.symm
  obtain rfl : fn = Tryd.f4 := (Option.some.inj (Tryd.func4.symm.trans hfn)).symm
  refine ⟨by kernel_rfl, fun j t ht => ?_⟩
  rw [Tryd.params4] at ht
  have hm := Array.mem_of_getElem? ht
  have hall : (#[36] : Array TypeId).all (fun t => Tryd.prog.wantsStandIn t == false) = true := by kernel_rfl
  have h2 := Array.all_eq_true_iff_forall_mem.1 hall t hm
  have h3 : Tryd.prog.wantsStandIn t = false := by simpa using h2
  exact h3
/-- The second form's card. -/
theorem proved : Rows.CodecWritesUptoCardSaid :=
  Claim7.holds_tied_plain_at .later [] _ _ _ _ said (fun _ h => by cases h) (by kernel_rfl) (fun _ h => by cases h) codecWritesUpto_row_tie rfl ⟨rfl, rfl⟩ (by kernel_rfl) rfl plain (by kernel_rfl)
end Go.Proofs.YtmmflhippbegaaaDoor.codecWrites
