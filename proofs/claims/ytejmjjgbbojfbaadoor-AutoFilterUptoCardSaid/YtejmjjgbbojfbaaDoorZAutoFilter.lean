/- AutoFilter: a walk over a dictionary tells just the entries whose key is the head and behind it an accepted text; the table accepts the same texts; what leads to an accepted text is alive: for arguments of bulk at most 1048576. -/
import Derived.Test.YtejmjjgbbojfbaaDoorCards
import Derived.Test.YtejmjjgbbojfbaaDoorTie
import Derived.Test.YtejmjjgbbojfbaaDoorZG1
import Derived.Test.YtejmjjgbbojfbaaDoorZAutoFilF
import Derived.Test.YtejmjjgbbojfbaaDoorZG28
import Derived.Test.YtejmjjgbbojfbaaDoorZG28
import Derived.Test.YtejmjjgbbojfbaaDoorZG28
import Derived.JoinedCond
import Derived.SevenTiedAt
namespace Go.Proofs.YtejmjjgbbojfbaaDoor.autoFilter
open Go.ChangeShapes Go.WideShapes Go.ChangeAt Go.RowKit


theorem errs {W : World} (h : laidMetH Tryd.prog Rows.autoFilterUptoRow.laid W) : ∃ EA, Errs W EA (errL24.map fun x => (x.1, x.2.1)) := by
  rw [MakeChecks.laidMetH_plain _ _ _ (by kernel_rfl)] at h
  exact errs_of_laid errL24 (by decide) h (by kernel_rfl)
theorem own : ownKnob Tryd.prog.godebug = none := by kernel_rfl
set_option maxRecDepth 100000 in
theorem contract (H : Type) (enc : TypeId × Value → H) (W : World) (base : Nat) (args : Array Value) (ds gs : List (DataW H)) (before : List MemPlace)
    (hval : ∀ (j : Nat) t v, Tryd.f12.params[j]? = some t → args[j]? = some v → Value.okWide Tryd.prog W .any base t v)
    (hW : DataW.Whole enc Tryd.prog Tryd.f12.params.toList Rows.autoFilterSpec.vars false W args.toList ds gs before) (hk : Rows.uptoSmall H (ds ++ gs) = true) (hL : laidMetH Tryd.prog Rows.autoFilterUptoRow.laid W) :
    Calls Tryd.prog 12 args W fun e W' => ∃ v, e = .returned v ∧ Rows.autoFilterSpec.post enc Tryd.prog Tryd.f12 false true false false W args v W' := by
  obtain ⟨EA, hE⟩ := errs hL
  have hW' := hW
  have hlt := hW.lt
  obtain ⟨p, q, hA0, hV, rfl, hfz, hnd⟩ := hW
  have hA : DataW.TrodAll enc Tryd.prog W 0 (fun _ => true) true Tryd.f12.params.toList args.toList ds p := hA0
  obtain ⟨rfl, rfl⟩ := trodVars_none hV
  simp only [List.append_nil] at hW' hlt hk
  have hkeep : ∀ W', Below W.heap.size W W' → ∀ sp : Nat → Bool, (∀ x ∈ p, sp x.block = true) → DataW.TrodAll enc Tryd.prog W' 0 sp true Tryd.f12.params.toList args.toList ds p :=
    fun W' hb sp hsp => trodAll_keep (by kernel_rfl) hb sp _ _ _ _ (by kernel_rfl) hA hlt hsp
  rw [Tryd.params12] at hA hval
  obtain ⟨v0, vs0, d0, ds0, p0, q0, hargs, rfl, rfl, h0, r0⟩ := trodAll_cons hA
  obtain ⟨v1, vs1, d1, ds1, p1, q1, rfl, rfl, rfl, h1, r1⟩ := trodAll_cons r0
  obtain ⟨v2, vs2, d2, ds2, p2, q2, rfl, rfl, rfl, h2, r2⟩ := trodAll_cons r1
  obtain ⟨v3, vs3, d3, ds3, p3, q3, rfl, rfl, rfl, h3, r3⟩ := trodAll_cons r2
  obtain ⟨rfl, rfl, rfl⟩ := trodAll_nil r3
  obtain rfl : args = #[v0, v1, v2, v3] := by cases args; simp_all
  obtain ⟨fux, hfx⟩ := h0
  obtain ⟨csx, rfl, hcsx⟩ := okWide_struct Tryd.underlying37 (hval 0 37 v0 rfl rfl)
  obtain ⟨o, ho, -, -, z1, z2, z3⟩ := open_of Tryd.underlying37 (by kernel_rfl) ⟨rfl, by kernel_rfl⟩ ⟨rfl, by kernel_rfl⟩ ⟨rfl, by kernel_rfl⟩ ⟨rfl, by kernel_rfl⟩ ⟨rfl, by kernel_rfl⟩ Tryd.underlying3 Tryd.underlying9 Tryd.underlying3 rfl rfl Tryd.underlying35 (by kernel_rfl) (by kernel_rfl) Tryd.underlying4 Tryd.underlying4 Tryd.underlying9 hfx
  have z1' : o.s.size + 1 ≤ Rows.uptoBulk d0 := z1
  have z2' : o.ls.size + 1 ≤ Rows.uptoBulk d0 := z2
  have z3' : o.hs.size + 1 ≤ Rows.uptoBulk d0 := z3
  have hcqx : csx = o.cells.toArray := by
    have h : csx.toList = o.cells := by simpa [Value.cells] using ho
    rw [← h]
  subst hcqx
  obtain ⟨fuy, hfy⟩ := h1
  obtain ⟨ay, ky, cy, rfl⟩ := okWide_slice Tryd.underlying38 (hval 1 38 v1 rfl rfl)
  obtain ⟨vby, lsy, hvby, hrby, hbby, hnby⟩ := open_texts Tryd.underlying38 Tryd.underlying9 (by kernel_rfl) hfy
  have hvcy : vby = .slice ay ky cy := by simpa [Value.cells] using hvby.symm
  subst hvcy
  have hney : lsy.length + 1 ≤ Rows.uptoBulk d1 := hnby
  obtain ⟨fuz, hfz⟩ := h2
  obtain ⟨wordz, rfl⟩ := okWide_string Tryd.underlying9 (hval 2 9 v2 rfl rfl)
  obtain ⟨sz, hsz, hdz, -⟩ := DataW.trod_string Tryd.underlying9 hfz
  obtain rfl : wordz = sz := by simpa [Value.cells] using hsz
  have hdz' : d2 = .lit (.string wordz.data.toList) := by simp only [Prod.mk.injEq] at hdz; exact hdz.1
  have hwz : wordz.size + 1 ≤ Rows.uptoBulk d2 := by
    rw [hdz']
    have h2 : wordz.size = wordz.data.toList.length := (Array.length_toList (xs := wordz.data)).symm
    simp only [Rows.uptoBulk]
    omega
  obtain ⟨fuu, hfu⟩ := h3
  obtain ⟨au, ku, cu, rfl⟩ := okWide_slice Tryd.underlying38 (hval 3 38 v3 rfl rfl)
  obtain ⟨vbu, lsu, hvbu, hrbu, hbbu, hnbu⟩ := open_texts Tryd.underlying38 Tryd.underlying9 (by kernel_rfl) hfu
  have hvcu : vbu = .slice au ku cu := by simpa [Value.cells] using hvbu.symm
  subst hvcu
  have hneu : lsu.length + 1 ≤ Rows.uptoBulk d3 := hnbu
  have hbd : Rows.uptoBulk d0 ≤ 1048576 ∧ Rows.uptoBulk d1 ≤ 1048576 ∧ Rows.uptoBulk d2 ≤ 1048576 ∧ Rows.uptoBulk d3 ≤ 1048576 := by
    have h : Rows.uptoBulkAll [d0, d1, d2, d3] ≤ 1048576 := of_decide_eq_true hk
    simp only [Rows.uptoBulkAll] at h
    omega
  have hS := sent_of hE
  refine (autofilter_walk W o ay ky cy lsy hrby (by omega) wordz (by omega) au ku cu lsu hrbu (by omega) (by omega) (by omega) (by omega) EA hS).mono fun e W' ⟨he, hg⟩ => ?_
  subst he
  exact ⟨_, rfl, post_below (pa := _) (pv := []) hW' (fun _ _ _ => (trodAll_cons_mk (shut_bool Tryd.underlying4 _) trodAll_mk0)) (fun sp hsp => hkeep W' hg sp hsp) (fun _ _ => rfl) (by simp)
    hg (ok_one (by kernel_rfl) rfl (okWide_bool_mk Tryd.underlying4 _))⟩

theorem laid_met (os : Os) (args : Array Value) : laidMetH Tryd.prog Rows.autoFilterUptoRow.laid ((World.laidAll Tryd.prog os Rows.autoFilterUptoRow.laid).forCall (fun _ _ => 0) ⟨#[], args, []⟩).memory := by
  rw [MakeChecks.laidMetH_plain _ _ _ (by kernel_rfl)]; exact laidMet_laidAll _ (by kernel_rfl) (by kernel_rfl)
set_option maxRecDepth 100000 in
theorem lifted (os : Os) (started : os.Started) (H : Type) (enc : TypeId × Value → H) (F : Stop.Interp) :
    ReturnsInHanded {} Tryd.checked os 12 .any ((Rows.OpenSpec.upto Rows.autoFilterSpec).preRow enc Tryd.prog Tryd.f12 Rows.autoFilterUptoRow.domain false Rows.autoFilterUptoRow.laid) (((Rows.OpenSpec.upto Rows.autoFilterSpec).at F).post enc Tryd.prog Tryd.f12 false true false false) := by
  refine returnsInHanded_of_row (C := Tryd.checked) (s := Rows.OpenSpec.upto Rows.autoFilterSpec) own started (by kernel_rfl) Tryd.func12
    (witness_row_shaped (enc := enc) (C := Tryd.checked) (World.laidAll Tryd.prog os Rows.autoFilterUptoRow.laid) #[.agg #[.int .i64 0, .string ⟨#[]⟩, .int .i64 0, .bool false, .bool false, .string ⟨#[]⟩, .bool false, .bool false, .string ⟨#[]⟩], .slice none 0 0, .string ⟨#[]⟩, .slice none 0 0] (World.laidAll_os _ _ _)
      (World.shaped_of_ZipB (by kernel_rfl) (by kernel_rfl)) (by kernel_rfl)
      (OpenSpec.preRow_of_cond 8 (x := ([.agg [.lit (.int .i64 0), .lit (.string []), .lit (.int .i64 0), .agg [.lit (.bool false), .lit (.bool false), .lit (.string [])], .agg [.lit (.bool false), .lit (.bool false), .lit (.string [])]], .nil, .lit (.string []), .nil], [], [])) (by kernel_rfl) (by kernel_rfl) (fun k hk => by cases hk; kernel_rfl) (by kernel_rfl) (laid_met os _))) ?_
  intro W base args ds gs before hval hW _ hcond _ hL _ _
  exact contract H enc W base args ds gs before hval hW (hcond _ rfl) hL

theorem said : Rows.AutoFilterUptoSaid :=
  OpenClaim.holds_of_cond 12 Tryd.f12 rfl rfl rfl rfl rfl rfl rfl ⟨rfl, rfl, rfl, rfl, rfl⟩ rfl rfl rfl rfl rfl (by kernel_rfl) Tryd.func12 (by kernel_rfl)
    (of_decide_eq_true (by kernel_rfl)) (by unfold Func.isWrapper; first | (rw [if_pos (by decide +kernel)]; kernel_rfl) | (rw [if_neg (by decide +kernel)]; exact ⟨rfl, rfl⟩))
    (fun os started H enc _ F => by rw [OpenClaim.pre_eq_preRow]; exact lifted os started H enc F)
/-- No parameter wants a stand-in; the program's own looks are off: what the card asks. -/
theorem plain (f : FuncId) (fn : Func) (hf : Tryd.pinned.checked.prog.funcNamed "concord/concordlaw07.AutoFilter" = some f) (hfn : Tryd.pinned.checked.prog.funcs[f]? = some fn) :
    true = Tryd.pinned.checked.prog.looks [] ∧ ∀ (j : Nat) t, fn.params[j]? = some t → Tryd.pinned.checked.prog.wantsStandIn t = false := by
  obtain rfl : f = 12 := Option.some.inj ((show Tryd.prog.funcNamed "concord/concordlaw07.AutoFilter" = some 12 by kernel_rfl).symm.trans hf) |>.symm
  obtain rfl : fn = Tryd.f12 := (Option.some.inj (Tryd.func12.symm.trans hfn)).symm
  refine ⟨by kernel_rfl, fun j t ht => ?_⟩
  rw [Tryd.params12] at ht
  have hm := Array.mem_of_getElem? ht
  have hall : (#[37, 38, 9, 38] : Array TypeId).all (fun t => Tryd.prog.wantsStandIn t == false) = true := by kernel_rfl
  have h2 := Array.all_eq_true_iff_forall_mem.1 hall t hm
  have h3 : Tryd.prog.wantsStandIn t = false := by simpa using h2
  exact h3
/-- The second form's card. -/
theorem proved : Rows.AutoFilterUptoCardSaid :=
  Claim7.holds_tied_plain_at .later [] _ _ _ _ said (fun _ h => by cases h) (by kernel_rfl) (fun _ h => by cases h) autoFilterUpto_row_tie rfl ⟨rfl, rfl⟩ (by kernel_rfl) rfl plain (by kernel_rfl)
end Go.Proofs.YtejmjjgbbojfbaaDoor.autoFilter
