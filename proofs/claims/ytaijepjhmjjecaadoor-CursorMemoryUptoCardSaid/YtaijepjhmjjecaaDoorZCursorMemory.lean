/- CursorMemory: bytes and lists handed in stay and aren't kept; positions are new memory; PhraseFreq changes nothing that it is handed: for arguments of bulk at most 1048576. -/
import Derived.Test.YtaijepjhmjjecaaDoorCards
import Derived.Test.YtaijepjhmjjecaaDoorTie
import Derived.Test.YtaijepjhmjjecaaDoorZG1
import Derived.Test.YtaijepjhmjjecaaDoorZCurMF
import Derived.Test.YtaijepjhmjjecaaDoorZG31
import Derived.Test.YtaijepjhmjjecaaDoorZG31
import Derived.Test.YtaijepjhmjjecaaDoorZG31
import Derived.Test.YtaijepjhmjjecaaDoorZG31
import Derived.Test.YtaijepjhmjjecaaDoorZG31
import Derived.JoinedCond
import Derived.SevenTiedAt
namespace Go.Proofs.YtaijepjhmjjecaaDoor.cursorMemory
open Go.ChangeShapes Go.WideShapes Go.ChangeAt Go.RowKit


theorem errs {W : World} (h : laidMetH Tryd.prog Rows.cursorMemoryUptoRow.laid W) : ∃ EA, Errs W EA (errL24.map fun x => (x.1, x.2.1)) := by
  rw [MakeChecks.laidMetH_plain _ _ _ (by kernel_rfl)] at h
  exact errs_of_laid errL24 (by decide) h (by kernel_rfl)
theorem own : ownKnob Tryd.prog.godebug = none := by kernel_rfl
set_option maxRecDepth 100000 in
theorem contract (H : Type) (enc : TypeId × Value → H) (W : World) (base : Nat) (args : Array Value) (ds gs : List (DataW H)) (before : List MemPlace)
    (hval : ∀ (j : Nat) t v, Tryd.f6.params[j]? = some t → args[j]? = some v → Value.okWide Tryd.prog W .any base t v)
    (hW : DataW.Whole enc Tryd.prog Tryd.f6.params.toList Rows.cursorMemorySpec.vars false W args.toList ds gs before) (hk : Rows.uptoSmall H (ds ++ gs) = true) (hL : laidMetH Tryd.prog Rows.cursorMemoryUptoRow.laid W) :
    Calls Tryd.prog 6 args W fun e W' => ∃ v, e = .returned v ∧ Rows.cursorMemorySpec.post enc Tryd.prog Tryd.f6 false true false false W args v W' := by
  obtain ⟨EA, hE⟩ := errs hL
  have hW' := hW
  have hlt := hW.lt
  obtain ⟨p, q, hA0, hV, rfl, hfz, hnd⟩ := hW
  have hA : DataW.TrodAll enc Tryd.prog W 0 (fun _ => true) true Tryd.f6.params.toList args.toList ds p := hA0
  obtain ⟨rfl, rfl⟩ := trodVars_none hV
  simp only [List.append_nil] at hW' hlt hk
  have hkeep : ∀ W', Below W.heap.size W W' → ∀ sp : Nat → Bool, (∀ x ∈ p, sp x.block = true) → DataW.TrodAll enc Tryd.prog W' 0 sp true Tryd.f6.params.toList args.toList ds p :=
    fun W' hb sp hsp => trodAll_keep (by kernel_rfl) hb sp _ _ _ _ (by kernel_rfl) hA hlt hsp
  rw [Tryd.params6] at hA hval
  obtain ⟨v0, vs0, d0, ds0, p0, q0, hargs, rfl, rfl, h0, r0⟩ := trodAll_cons hA
  obtain ⟨v1, vs1, d1, ds1, p1, q1, rfl, rfl, rfl, h1, r1⟩ := trodAll_cons r0
  obtain ⟨v2, vs2, d2, ds2, p2, q2, rfl, rfl, rfl, h2, r2⟩ := trodAll_cons r1
  obtain ⟨rfl, rfl, rfl⟩ := trodAll_nil r2
  obtain rfl : args = #[v0, v1, v2] := by cases args; simp_all
  obtain ⟨fux, hfx⟩ := h0
  obtain ⟨ax, kx, cx, rfl⟩ := okWide_slice Tryd.underlying31 (hval 0 31 v0 rfl rfl)
  obtain ⟨aP, nP, cP, ps, hvx, hrx, hcx, hfp, hnx⟩ := open_posts Tryd.underlying31 Tryd.underlying41 (by kernel_rfl) (by kernel_rfl) Tryd.underlying3 rfl Tryd.underlying23 Tryd.underlying3 (by kernel_rfl) hfx
  have hv2x : Value.slice aP nP cP = .slice ax kx cx := by simpa [Value.cells] using hvx.symm
  injection hv2x with e1 e2 e3
  subst e1 e2 e3
  have hnx' : totalV ps + ps.length + 1 ≤ Rows.uptoBulk d0 := hnx
  obtain ⟨fuy, hfy⟩ := h1
  obtain ⟨ay, ky, cy, rfl⟩ := okWide_slice Tryd.underlying22 (hval 1 22 v1 rfl rfl)
  obtain ⟨aL, nL, cL, lsy, hvy, hry, hcy, hfly, hny⟩ := open_ll Tryd.underlying22 Tryd.underlying23 Tryd.underlying3 (by kernel_rfl) (by kernel_rfl) hfy
  have hv2y : Value.slice aL nL cL = .slice ay ky cy := by simpa [Value.cells] using hvy.symm
  injection hv2y with e1 e2 e3
  subst e1 e2 e3
  have hney : sumL lsy + lsy.length + 1 ≤ Rows.uptoBulk d1 := hny
  obtain ⟨fuz, hfz⟩ := h2
  obtain ⟨az, kz, cz, rfl⟩ := okWide_slice Tryd.underlying23 (hval 2 23 v2 rfl rfl)
  obtain ⟨vbz, lz, hvbz, hrbz, hfbz, hnbz⟩ := open_intl Tryd.underlying23 Tryd.underlying3 (by kernel_rfl) hfz
  have hvcz : vbz = .slice az kz cz := by simpa [Value.cells] using hvbz.symm
  subst hvcz
  have hnez : lz.length + 1 ≤ Rows.uptoBulk d2 := hnbz
  have hbd : Rows.uptoBulk d0 ≤ 1048576 ∧ Rows.uptoBulk d1 ≤ 1048576 ∧ Rows.uptoBulk d2 ≤ 1048576 := by
    have h : Rows.uptoBulkAll [d0, d1, d2] ≤ 1048576 := of_decide_eq_true hk
    simp only [Rows.uptoBulkAll] at h
    omega
  have hfit : FitP ps := fun p hp => ⟨(hfp p hp).1, (hfp p hp).2, by have := totalV_mem hp; omega⟩
  have hS := sent_of hE
  refine (cursorMemory_walk W aP nP cP ps hrx hcx hfit (by omega) (by omega) aL nL cL lsy hry az kz cz lz hrbz (by omega) (by omega) (by omega) EA hS).mono fun e W' ⟨he, hg⟩ => ?_
  subst he
  exact ⟨_, rfl, post_below (pa := _) (pv := []) hW' (fun _ _ _ => (trodAll_cons_mk (shut_bool Tryd.underlying4 _) trodAll_mk0)) (fun sp hsp => hkeep W' hg sp hsp) (fun _ _ => rfl) (by simp)
    hg (ok_one (by kernel_rfl) rfl (okWide_bool_mk Tryd.underlying4 _))⟩

theorem laid_met (os : Os) (args : Array Value) : laidMetH Tryd.prog Rows.cursorMemoryUptoRow.laid ((World.laidAll Tryd.prog os Rows.cursorMemoryUptoRow.laid).forCall (fun _ _ => 0) ⟨#[], args, []⟩).memory := by
  rw [MakeChecks.laidMetH_plain _ _ _ (by kernel_rfl)]; exact laidMet_laidAll _ (by kernel_rfl) (by kernel_rfl)
set_option maxRecDepth 100000 in
theorem lifted (os : Os) (started : os.Started) (H : Type) (enc : TypeId × Value → H) (F : Stop.Interp) :
    ReturnsInHanded {} Tryd.checked os 6 .any ((Rows.OpenSpec.upto Rows.cursorMemorySpec).preRow enc Tryd.prog Tryd.f6 Rows.cursorMemoryUptoRow.domain false Rows.cursorMemoryUptoRow.laid) (((Rows.OpenSpec.upto Rows.cursorMemorySpec).at F).post enc Tryd.prog Tryd.f6 false true false false) := by
  refine returnsInHanded_of_row (C := Tryd.checked) (s := Rows.OpenSpec.upto Rows.cursorMemorySpec) own started (by kernel_rfl) Tryd.func6
    (witness_row_shaped (enc := enc) (C := Tryd.checked) (World.laidAll Tryd.prog os Rows.cursorMemoryUptoRow.laid) #[.slice none 0 0, .slice none 0 0, .slice none 0 0] (World.laidAll_os _ _ _)
      (World.shaped_of_ZipB (by kernel_rfl) (by kernel_rfl)) (by kernel_rfl)
      (OpenSpec.preRow_of_cond 8 (x := ([.nil, .nil, .nil], [], [])) (by kernel_rfl) (by kernel_rfl) (fun k hk => by cases hk; kernel_rfl) (by kernel_rfl) (laid_met os _))) ?_
  intro W base args ds gs before hval hW _ hcond _ hL _ _
  exact contract H enc W base args ds gs before hval hW (hcond _ rfl) hL

theorem said : Rows.CursorMemoryUptoSaid :=
  OpenClaim.holds_of_cond 6 Tryd.f6 rfl rfl rfl rfl rfl rfl rfl ⟨rfl, rfl, rfl, rfl, rfl⟩ rfl rfl rfl rfl rfl (by kernel_rfl) Tryd.func6 (by kernel_rfl)
    (of_decide_eq_true (by kernel_rfl)) (by unfold Func.isWrapper; first | (rw [if_pos (by decide +kernel)]; kernel_rfl) | (rw [if_neg (by decide +kernel)]; exact ⟨rfl, rfl⟩))
    (fun os started H enc _ F => by rw [OpenClaim.pre_eq_preRow]; exact lifted os started H enc F)
/-- No parameter wants a stand-in; the program's own looks are off: what the card asks. -/
theorem plain (f : FuncId) (fn : Func) (hf : Tryd.pinned.checked.prog.funcNamed "concord/concordlaw09.CursorMemory" = some f) (hfn : Tryd.pinned.checked.prog.funcs[f]? = some fn) :
    true = Tryd.pinned.checked.prog.looks [] ∧ ∀ (j : Nat) t, fn.params[j]? = some t → Tryd.pinned.checked.prog.wantsStandIn t = false := by
  obtain rfl : f = 6 := Option.some.inj ((show Tryd.prog.funcNamed "concord/concordlaw09.CursorMemory" = some 6 by kernel_rfl).symm.trans hf) |>.symm
  obtain rfl : fn = Tryd.f6 := (Option.some.inj (Tryd.func6.symm.trans hfn)).symm
  refine ⟨by kernel_rfl, fun j t ht => ?_⟩
  rw [Tryd.params6] at ht
  have hm := Array.mem_of_getElem? ht
  have hall : (#[31, 22, 23] : Array TypeId).all (fun t => Tryd.prog.wantsStandIn t == false) = true := by kernel_rfl
  have h2 := Array.all_eq_true_iff_forall_mem.1 hall t hm
  have h3 : Tryd.prog.wantsStandIn t = false := by simpa using h2
  exact h3
/-- The second form's card. -/
theorem proved : Rows.CursorMemoryUptoCardSaid :=
  Claim7.holds_tied_plain_at .later [] _ _ _ _ said (fun _ h => by cases h) (by kernel_rfl) (fun _ h => by cases h) cursorMemoryUpto_row_tie rfl ⟨rfl, rfl⟩ (by kernel_rfl) rfl plain (by kernel_rfl)
end Go.Proofs.YtaijepjhmjjecaaDoor.cursorMemory
