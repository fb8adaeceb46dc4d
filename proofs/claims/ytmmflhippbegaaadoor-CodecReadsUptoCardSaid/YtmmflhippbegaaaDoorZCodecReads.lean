/- CodecReads: two Readers in turns, over any bytes: every answer, error and place; the bytes handed in are written over at once, the lists handed out are new memory: for arguments of bulk at most 1048576. -/
import Derived.Test.YtmmflhippbegaaaDoorCards
import Derived.Test.YtmmflhippbegaaaDoorTie
import Derived.Test.YtmmflhippbegaaaDoorZG3
import Derived.Test.YtmmflhippbegaaaDoorZReads
import Derived.Test.YtmmflhippbegaaaDoorZG4
import Derived.Test.YtmmflhippbegaaaDoorZG5
import Derived.Test.YtmmflhippbegaaaDoorZSent
import Derived.JoinedCond
import Derived.SevenTiedAt
namespace Go.Proofs.YtmmflhippbegaaaDoor.codecReads
open Go.ChangeShapes Go.WideShapes Go.ChangeAt Go.RowKit


theorem errs {W : World} (h : laidMetH Tryd.prog Rows.codecReadsUptoRow.laid W) : ∃ EA, Errs W EA (errL24.map fun x => (x.1, x.2.1)) := by
  rw [MakeChecks.laidMetH_plain _ _ _ (by kernel_rfl)] at h
  exact errs_of_laid errL24 (by decide) h (by kernel_rfl)
theorem own : ownKnob Tryd.prog.godebug = none := by kernel_rfl
set_option maxRecDepth 100000 in
theorem contract (H : Type) (enc : TypeId × Value → H) (W : World) (base : Nat) (args : Array Value) (ds gs : List (DataW H)) (before : List MemPlace)
    (hval : ∀ (j : Nat) t v, Tryd.f5.params[j]? = some t → args[j]? = some v → Value.okWide Tryd.prog W .any base t v)
    (hW : DataW.Whole enc Tryd.prog Tryd.f5.params.toList Rows.codecReadsSpec.vars false W args.toList ds gs before) (hk : Rows.uptoSmall H (ds ++ gs) = true) (hL : laidMetH Tryd.prog Rows.codecReadsUptoRow.laid W) :
    Calls Tryd.prog 5 args W fun e W' => ∃ v, e = .returned v ∧ Rows.codecReadsSpec.post enc Tryd.prog Tryd.f5 false true false false W args v W' := by
  obtain ⟨EA, hE⟩ := errs hL
  have hW' := hW
  have hlt := hW.lt
  obtain ⟨p, q, hA0, hV, rfl, hfz, hnd⟩ := hW
  have hA : DataW.TrodAll enc Tryd.prog W 0 (fun _ => true) true Tryd.f5.params.toList args.toList ds p := hA0
  obtain ⟨rfl, rfl⟩ := trodVars_none hV
  simp only [List.append_nil] at hW' hlt hk
  have hkeep : ∀ W', Below W.heap.size W W' → ∀ sp : Nat → Bool, (∀ x ∈ p, sp x.block = true) → DataW.TrodAll enc Tryd.prog W' 0 sp true Tryd.f5.params.toList args.toList ds p :=
    fun W' hb sp hsp => trodAll_keep (by kernel_rfl) hb sp _ _ _ _ (by kernel_rfl) hA hlt hsp
  rw [Tryd.params5] at hA hval
  obtain ⟨v0, vs0, d0, ds0, p0, q0, hargs, rfl, rfl, h0, r0⟩ := trodAll_cons hA
  obtain ⟨v1, vs1, d1, ds1, p1, q1, rfl, rfl, rfl, h1, r1⟩ := trodAll_cons r0
  obtain ⟨v2, vs2, d2, ds2, p2, q2, rfl, rfl, rfl, h2, r2⟩ := trodAll_cons r1
  obtain ⟨rfl, rfl, rfl⟩ := trodAll_nil r2
  obtain rfl : args = #[v0, v1, v2] := by cases args; simp_all
  obtain ⟨fux, hfx⟩ := h0
  obtain ⟨ax, kx, cx, rfl⟩ := okWide_slice Tryd.underlying37 (hval 0 37 v0 rfl rfl)
  obtain ⟨vbx, bsx, hvbx, hrbx, hnbx⟩ := open_bytes Tryd.underlying37 Tryd.underlying5 (by kernel_rfl) hfx
  have hvcx : vbx = .slice ax kx cx := by simpa [Value.cells] using hvbx.symm
  subst hvcx
  have hnex : bsx.length + 1 ≤ Rows.uptoBulk d0 := hnbx
  obtain ⟨fuy, hfy⟩ := h1
  obtain ⟨ay, ky, cy, rfl⟩ := okWide_slice Tryd.underlying37 (hval 1 37 v1 rfl rfl)
  obtain ⟨vby, bsy, hvby, hrby, hnby⟩ := open_bytes Tryd.underlying37 Tryd.underlying5 (by kernel_rfl) hfy
  have hvcy : vby = .slice ay ky cy := by simpa [Value.cells] using hvby.symm
  subst hvcy
  have hney : bsy.length + 1 ≤ Rows.uptoBulk d1 := hnby
  obtain ⟨fu0, hf0⟩ := h2
  obtain ⟨a1, k1, c1, rfl⟩ := okWide_slice Tryd.underlying36 (hval 2 36 v2 rfl rfl)
  obtain ⟨a, n, c, ops, hv2, hops, hok, hn2, hwg⟩ := open_ops_w Tryd.underlying36 Tryd.underlying46 (by kernel_rfl) (by kernel_rfl) Tryd.underlying3 Tryd.underlying4 Tryd.underlying3 Tryd.underlying22 Tryd.underlying2 Tryd.underlying37 Tryd.underlying5 (by kernel_rfl) Tryd.underlying9 Tryd.underlying23 Tryd.underlying3 (by kernel_rfl) hf0
  have hv2' : Value.slice a n c = .slice a1 k1 c1 := by simpa [Value.cells] using hv2.symm
  injection hv2' with e1 e2 e3
  subst e1 e2 e3
  have hbounds : Rows.uptoBulk d0 ≤ 1048576 ∧ Rows.uptoBulk d1 ≤ 1048576 ∧ Rows.uptoBulk d2 ≤ 1048576 := by
    have h : Rows.uptoBulkAll [d0, d1, d2] ≤ 1048576 := of_decide_eq_true hk
    simp only [Rows.uptoBulkAll] at h
    omega
  obtain ⟨hbd0, hbd1, hbound⟩ := hbounds
  have hn2' : ops.length + 1 ≤ Rows.uptoBulk d2 := hn2
  have hwg' : (ops.map wgt).sum ≤ Rows.uptoBulk d2 := hwg
  have hex : ∀ o : OpV, ∃ x : List UInt8 × List Int, o ∈ ops → OpRd W W.heap.size o x.1 x.2 := fun o => by
    by_cases h : o ∈ ops
    · obtain ⟨bl, l, h2⟩ := (hok o h).rd hbound
      exact ⟨(bl, l), fun _ => h2⟩
    · exact ⟨([], []), fun h2 => absurd h2 h⟩
  obtain ⟨f, hf⟩ := Classical.axiomOfChoice hex
  have hS := sent_of hE
  have hRE : RErr W EA := ⟨hE.cell (k := 1) (n := "concord/api.ErrShort") (by decide) (by kernel_rfl), hE.cell (k := 2) (n := "concord/api.ErrVarint") (by decide) (by kernel_rfl), hE.cell (k := 3) (n := "concord/api.ErrLimit") (by decide) (by kernel_rfl), hE.cell (k := 4) (n := "concord/api.ErrOrder") (by decide) (by kernel_rfl), hE.cell (k := 8) (n := "concord/api.ErrRange") (by decide) (by kernel_rfl)⟩
  have hGL : GLow W.heap.size := ⟨World.block_lt_of_cell? W _ hRE.s, World.block_lt_of_cell? W _ hRE.v, World.block_lt_of_cell? W _ hRE.l, World.block_lt_of_cell? W _ hRE.o, World.block_lt_of_cell? W _ hRE.r⟩
  refine (reads_walk W ax kx cx bsx hrbx (by omega) ay ky cy bsy hrby (by omega) a n c ops hops (by omega) (fun o ho => (hf o ho).n) EA hS hRE hGL).mono fun e W' ⟨he, hg⟩ => ?_
  subst he
  exact ⟨_, rfl, post_below (pa := _) (pv := []) hW' (fun _ _ _ => (trodAll_cons_mk (shut_bool Tryd.underlying4 _) trodAll_mk0)) (fun sp hsp => hkeep W' hg sp hsp) (fun _ _ => rfl) (by simp)
    hg (ok_one (by kernel_rfl) rfl (okWide_bool_mk Tryd.underlying4 _))⟩

theorem laid_met (os : Os) (args : Array Value) : laidMetH Tryd.prog Rows.codecReadsUptoRow.laid ((World.laidAll Tryd.prog os Rows.codecReadsUptoRow.laid).forCall (fun _ _ => 0) ⟨#[], args, []⟩).memory := by
  rw [MakeChecks.laidMetH_plain _ _ _ (by kernel_rfl)]; exact laidMet_laidAll _ (by kernel_rfl) (by kernel_rfl)
set_option maxRecDepth 100000 in
theorem lifted (os : Os) (started : os.Started) (H : Type) (enc : TypeId × Value → H) (F : Stop.Interp) :
    ReturnsInHanded {} Tryd.checked os 5 .any ((Rows.OpenSpec.upto Rows.codecReadsSpec).preRow enc Tryd.prog Tryd.f5 Rows.codecReadsUptoRow.domain false Rows.codecReadsUptoRow.laid) (((Rows.OpenSpec.upto Rows.codecReadsSpec).at F).post enc Tryd.prog Tryd.f5 false true false false) := by
  refine returnsInHanded_of_row (C := Tryd.checked) (s := Rows.OpenSpec.upto Rows.codecReadsSpec) own started (by kernel_rfl) Tryd.func5
    (witness_row_shaped (enc := enc) (C := Tryd.checked) (World.laidAll Tryd.prog os Rows.codecReadsUptoRow.laid) #[.slice none 0 0, .slice none 0 0, .slice none 0 0] (World.laidAll_os _ _ _)
      (World.shaped_of_ZipB (by kernel_rfl) (by kernel_rfl)) (by kernel_rfl)
      (OpenSpec.preRow_of_cond 8 (x := ([.nil, .nil, .nil], [], [])) (by kernel_rfl) (by kernel_rfl) (fun k hk => by cases hk; kernel_rfl) (by kernel_rfl) (laid_met os _))) ?_
  intro W base args ds gs before hval hW _ hcond _ hL _ _
  exact contract H enc W base args ds gs before hval hW (hcond _ rfl) hL

theorem said : Rows.CodecReadsUptoSaid :=
  OpenClaim.holds_of_cond 5 Tryd.f5 rfl rfl rfl rfl rfl rfl rfl ⟨rfl, rfl, rfl, rfl, rfl⟩ rfl rfl rfl rfl rfl (by kernel_rfl) Tryd.func5 (by kernel_rfl)
    (of_decide_eq_true (by kernel_rfl)) (by unfold Func.isWrapper; first | (rw [if_pos (by decide +kernel)]; kernel_rfl) | (rw [if_neg (by decide +kernel)]; exact ⟨rfl, rfl⟩))
    (fun os started H enc _ F => by rw [OpenClaim.pre_eq_preRow]; exact lifted os started H enc F)
/-- No parameter wants a stand-in; the program's own looks are off: what the card asks. -/
theorem plain (f : FuncId) (fn : Func) (hf : Tryd.pinned.checked.prog.funcNamed "concord/concordlaw01.CodecReads" = some f) (hfn : Tryd.pinned.checked.prog.funcs[f]? = some fn) :
    true = Tryd.pinned.checked.prog.looks [] ∧ ∀ (j : Nat) t, fn.params[j]? = some t → Tryd.pinned.checked.prog.wantsStandIn t = false := by
  obtain rfl : f = 5 := Option.some.inj ((show Tryd.prog.funcNamed "concord/concordlaw01.CodecReads" = some 5 by kernel_rfl).symm.trans hf) |>.symm
  obtain rfl : fn = Tryd.f5 := (Option.some.inj (Tryd.func5.symm.trans hfn)).symm
  refine ⟨by kernel_rfl, fun j t ht => ?_⟩
  rw [Tryd.params5] at ht
  have hm := Array.mem_of_getElem? ht
  have hall : (#[37, 37, 36] : Array TypeId).all (fun t => Tryd.prog.wantsStandIn t == false) = true := by kernel_rfl
  have h2 := Array.all_eq_true_iff_forall_mem.1 hall t hm
  have h3 : Tryd.prog.wantsStandIn t = false := by simpa using h2
  exact h3
/-- The second form's card. -/
theorem proved : Rows.CodecReadsUptoCardSaid :=
  Claim7.holds_tied_plain_at .later [] _ _ _ _ said (fun _ h => by cases h) (by kernel_rfl) (fun _ h => by cases h) codecReadsUpto_row_tie rfl ⟨rfl, rfl⟩ (by kernel_rfl) rfl plain (by kernel_rfl)
end Go.Proofs.YtmmflhippbegaaaDoor.codecReads
