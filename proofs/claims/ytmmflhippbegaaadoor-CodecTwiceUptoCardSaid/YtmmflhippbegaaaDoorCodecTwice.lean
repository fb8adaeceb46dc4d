/- CodecTwice: Bytes, Raw, Rising and Packed asked again and again of equal objects answer alike, in memory of their own: for arguments of bulk at most 1048576. -/
import Derived.Test.YtmmflhippbegaaaDoorCards
import Derived.Test.YtmmflhippbegaaaDoorTie
import Derived.Test.YtmmflhippbegaaaDoorErr
import Derived.Test.YtmmflhippbegaaaDoorTwice
import Derived.Test.YtmmflhippbegaaaDoorOpenI
import Derived.JoinedCond
import Derived.SevenTiedAt
namespace Go.Proofs.YtmmflhippbegaaaDoor.codecTwice
open Go.ChangeShapes Go.WideShapes Go.ChangeAt Go.RowKit

def errL : List (Nat × String × List UInt8) := [(1, "concord/api.ErrShort", [99, 111, 110, 99, 111, 114, 100, 58, 32, 116, 111, 111, 32, 115, 104, 111, 114, 116]), (2, "concord/api.ErrVarint", [99, 111, 110, 99, 111, 114, 100, 58, 32, 118, 97, 114, 105, 110, 116]), (3, "concord/api.ErrLimit", [99, 111, 110, 99, 111, 114, 100, 58, 32, 108, 105, 109, 105, 116]), (4, "concord/api.ErrOrder", [99, 111, 110, 99, 111, 114, 100, 58, 32, 111, 114, 100, 101, 114]), (8, "concord/api.ErrRange", [99, 111, 110, 99, 111, 114, 100, 58, 32, 114, 97, 110, 103, 101])]
theorem errs {W : World} (h : laidMetH Tryd.prog Rows.codecTwiceUptoRow.laid W) : ∃ EA, Errs W EA (errL.map fun x => (x.1, x.2.1)) := by
  rw [MakeChecks.laidMetH_plain _ _ _ (by kernel_rfl)] at h
  exact errs_of_laid errL (by decide) h (by kernel_rfl)
theorem own : ownKnob Tryd.prog.godebug = none := by kernel_rfl
set_option maxRecDepth 100000 in
theorem contract (H : Type) (enc : TypeId × Value → H) (W : World) (base : Nat) (args : Array Value) (ds gs : List (DataW H)) (before : List MemPlace)
    (hval : ∀ (j : Nat) t v, Tryd.f6.params[j]? = some t → args[j]? = some v → Value.okWide Tryd.prog W .any base t v)
    (hW : DataW.Whole enc Tryd.prog Tryd.f6.params.toList Rows.codecTwiceSpec.vars false W args.toList ds gs before) (hk : Rows.uptoSmall H (ds ++ gs) = true) (hL : laidMetH Tryd.prog Rows.codecTwiceUptoRow.laid W) :
    Calls Tryd.prog 6 args W fun e W' => ∃ v, e = .returned v ∧ Rows.codecTwiceSpec.post enc Tryd.prog Tryd.f6 false true false false W args v W' := by
  obtain ⟨EA, hE⟩ := errs hL
  have hW' := hW
  have hlt := hW.lt
  obtain ⟨p, q, hA0, hV, rfl, hfz, hnd⟩ := hW
  have hA : DataW.TrodAll enc Tryd.prog W 0 (fun _ => true) true Tryd.f6.params.toList args.toList ds p := hA0
  obtain ⟨rfl, rfl⟩ := trodVars_none hV
  simp only [List.append_nil] at hW' hlt hk
  have hkeep : ∀ W', Below W.heap.size W W' → ∀ sp : Nat → Bool, (∀ x ∈ p, sp x.block = true) → DataW.TrodAll enc Tryd.prog W' 0 sp true Tryd.f6.params.toList args.toList ds p :=
    fun W' hb sp hsp => trodAll_keep (by kernel_rfl) hb sp _ _ _ _ (by kernel_rfl) hA hlt hsp
  rw [Tryd.params6] at hA hval
  obtain ⟨v0, vs0, d0, ds0, p0, q0, hargs, rfl, rfl, h0, r0⟩ := trodAll_cons hA
  obtain ⟨v1, vs1, d1, ds1, p1, q1, rfl, rfl, rfl, h1, r1⟩ := trodAll_cons r0
  obtain ⟨rfl, rfl, rfl⟩ := trodAll_nil r1
  obtain rfl : args = #[v0, v1] := by cases args; simp_all
  obtain ⟨fu0, hf0⟩ := h0
  obtain ⟨fu1, hf1⟩ := h1
  obtain ⟨a1, k1, c1, rfl⟩ := okWide_slice Tryd.underlying23 (hval 0 23 v0 rfl rfl)
  obtain ⟨a2, k2, c2, rfl⟩ := okWide_slice Tryd.underlying37 (hval 1 37 v1 rfl rfl)
  obtain ⟨v, l, hv, hr, hfit, hn⟩ := open_intl Tryd.underlying23 Tryd.underlying3 (by kernel_rfl) hf0
  have hv' : v = .slice a1 k1 c1 := by simpa [Value.cells] using hv.symm
  subst hv'
  obtain ⟨v, bs, hv, hr2, hn2⟩ := open_bytes Tryd.underlying37 Tryd.underlying5 (by kernel_rfl) hf1
  have hv' : v = .slice a2 k2 c2 := by simpa [Value.cells] using hv.symm
  subst hv'
  have hbound : Rows.uptoBulk d0 ≤ 1048576 ∧ Rows.uptoBulk d1 ≤ 1048576 := by
    have h : Rows.uptoBulkAll [d0, d1] ≤ 1048576 := of_decide_eq_true hk
    simp only [Rows.uptoBulkAll] at h
    omega
  have hn' : l.length + 1 ≤ Rows.uptoBulk d0 := hn
  have hn2' : bs.length + 1 ≤ Rows.uptoBulk d1 := hn2
  have hRE : RErr W EA := ⟨hE.cell (k := 1) (n := "concord/api.ErrShort") (by decide) (by kernel_rfl), hE.cell (k := 2) (n := "concord/api.ErrVarint") (by decide) (by kernel_rfl), hE.cell (k := 3) (n := "concord/api.ErrLimit") (by decide) (by kernel_rfl), hE.cell (k := 4) (n := "concord/api.ErrOrder") (by decide) (by kernel_rfl), hE.cell (k := 8) (n := "concord/api.ErrRange") (by decide) (by kernel_rfl)⟩
  refine (twice_walk W a1 k1 c1 l hr a2 k2 c2 bs hr2 hfit (by omega) (by omega) EA hRE).mono fun e W' ⟨he, hg⟩ => ?_
  subst he
  exact ⟨_, rfl, post_below (pa := _) (pv := []) hW' (fun _ _ _ => (trodAll_cons_mk (shut_bool Tryd.underlying4 _) trodAll_mk0)) (fun sp hsp => hkeep W' hg sp hsp) (fun _ _ => rfl) (by simp)
    hg (ok_one (by kernel_rfl) rfl (okWide_bool_mk Tryd.underlying4 _))⟩

theorem laid_met (os : Os) (args : Array Value) : laidMetH Tryd.prog Rows.codecTwiceUptoRow.laid ((World.laidAll Tryd.prog os Rows.codecTwiceUptoRow.laid).forCall (fun _ _ => 0) ⟨#[], args, []⟩).memory := by
  rw [MakeChecks.laidMetH_plain _ _ _ (by kernel_rfl)]; exact laidMet_laidAll _ (by kernel_rfl) (by kernel_rfl)
set_option maxRecDepth 100000 in
theorem lifted (os : Os) (started : os.Started) (H : Type) (enc : TypeId × Value → H) (F : Stop.Interp) :
    ReturnsInHanded {} Tryd.checked os 6 .any ((Rows.OpenSpec.upto Rows.codecTwiceSpec).preRow enc Tryd.prog Tryd.f6 Rows.codecTwiceUptoRow.domain false Rows.codecTwiceUptoRow.laid) (((Rows.OpenSpec.upto Rows.codecTwiceSpec).at F).post enc Tryd.prog Tryd.f6 false true false false) := by
  refine returnsInHanded_of_row (C := Tryd.checked) (s := Rows.OpenSpec.upto Rows.codecTwiceSpec) own started (by kernel_rfl) Tryd.func6
    (witness_row_shaped (enc := enc) (C := Tryd.checked) (World.laidAll Tryd.prog os Rows.codecTwiceUptoRow.laid) #[.slice none 0 0, .slice none 0 0] (World.laidAll_os _ _ _)
      (World.shaped_of_ZipB (by kernel_rfl) (by kernel_rfl)) (by kernel_rfl)
      (OpenSpec.preRow_of_cond 8 (x := ([.nil, .nil], [], [])) (by kernel_rfl) (by kernel_rfl) (fun k hk => by cases hk; kernel_rfl) (by kernel_rfl) (laid_met os _))) ?_
  intro W base args ds gs before hval hW _ hcond _ hL _ _
  exact contract H enc W base args ds gs before hval hW (hcond _ rfl) hL

theorem said : Rows.CodecTwiceUptoSaid :=
  OpenClaim.holds_of_cond 6 Tryd.f6 rfl rfl rfl rfl rfl rfl rfl ⟨rfl, rfl, rfl, rfl, rfl⟩ rfl rfl rfl rfl rfl (by kernel_rfl) Tryd.func6 (by kernel_rfl)
    (of_decide_eq_true (by kernel_rfl)) (by unfold Func.isWrapper; first | (rw [if_pos (by decide +kernel)]; kernel_rfl) | (rw [if_neg (by decide +kernel)]; exact ⟨rfl, rfl⟩))
    (fun os started H enc _ F => by rw [OpenClaim.pre_eq_preRow]; exact lifted os started H enc F)
/-- No parameter wants a stand-in; the program's own looks are off: what the card asks. -/
theorem plain (f : FuncId) (fn : Func) (hf : Tryd.pinned.checked.prog.funcNamed "concord/concordlaw01.CodecTwice" = some f) (hfn : Tryd.pinned.checked.prog.funcs[f]? = some fn) :
    true = Tryd.pinned.checked.prog.looks [] ∧ ∀ (j : Nat) t, fn.params[j]? = some t → Tryd.pinned.checked.prog.wantsStandIn t = false := by
  obtain rfl : f = 6 := Option.some.inj ((show Tryd.prog.funcNamed "concord/concordlaw01.CodecTwice" = some 6 by kernel_rfl).symm.trans hf) |>.symm
  obtain rfl : fn = Tryd.f6 := (Option.some.inj (Tryd.func6.symm.trans hfn)).symm
  refine ⟨by kernel_rfl, fun j t ht => ?_⟩
  rw [Tryd.params6] at ht
  have hm := Array.mem_of_getElem? ht
  have hall : (#[23, 37] : Array TypeId).all (fun t => Tryd.prog.wantsStandIn t == false) = true := by kernel_rfl
  have h2 := Array.all_eq_true_iff_forall_mem.1 hall t hm
  have h3 : Tryd.prog.wantsStandIn t = false := by simpa using h2
  exact h3
/-- The second form's card. -/
theorem proved : Rows.CodecTwiceUptoCardSaid :=
  Claim7.holds_tied_plain_at .later [] _ _ _ _ said (fun _ h => by cases h) (by kernel_rfl) (fun _ h => by cases h) codecTwiceUpto_row_tie rfl ⟨rfl, rfl⟩ (by kernel_rfl) rfl plain (by kernel_rfl)
end Go.Proofs.YtmmflhippbegaaaDoor.codecTwice
