/- The law's walked: a walk over a dictionary tells just the entries. -/
import Derived.Test.YtfeldllcpeibcaaDoorWalk
import Derived.Test.YtfeldllcpeibcaaDoorEntEq
import Derived.Test.YtfeldllcpeibcaaDoorQuietR
import Derived.Sort.QuietTacIn
import Derived.Outline
namespace Go.Proofs.YtfeldllcpeibcaaDoor
set_option linter.unusedVariables false
open Go.ChangeShapes Go.WideShapes Go.ChangeAt Go.RowKit Go.Shelf
attribute [local go_sem] Oper.semAt_some

theorem walkf_nil (cb : Array Value) (w : World) : (binOp .eql 60 (.func (.func 53) #[] cb) .nilFunc).run Tryd.prog w = .ok (.bool false) w := by kernel_rfl
/-- The blocks below a loop's beginning stay, where no other than a block of no cells from there on turns. -/
theorem own_blk {B k : Nat} {W W' : World} {row : Option Nat} {o : Obj} (hk : k < B) (h : W.heap[k]? = some o) (hg : W.grownBy W' row) (hr : ∀ r, row = some r → B ≤ r ∧ ∃ o : Obj, W.heap[r]? = some o ∧ o.isCells = false) : W'.heap[k]? = some o :=
  (hg.block k (lt_of_heap h) (fun e => by have := (hr k e.symm).1; omega)).trans h
theorem own_cells {B k : Nat} {W W' : World} {row : Option Nat} {cs : Array Value} {t : TypeId} {fr : Nat × Nat} (h : W.heap[k]? = some (.cells cs t fr)) (hg : W.grownBy W' row) (hr : ∀ r, row = some r → B ≤ r ∧ ∃ o : Obj, W.heap[r]? = some o ∧ o.isCells = false) : W'.heap[k]? = some (.cells cs t fr) :=
  (hg.block k (lt_of_heap h) (fun e => by
    obtain ⟨_, o, ho, hc⟩ := hr k e.symm
    rw [h] at ho
    injection ho with ho
    subst ho
    cases hc)).trans h
set_option maxRecDepth 100000 in
set_option maxHeartbeats 4000000 in
theorem walked_pos (w : World) (base q : Nat) (v : Value) (es : List EntV) (hD : DictAt w base q v es) (a : Option Addr) (n c : Nat) (hl : RdEnt w a n es) (hel : es.length ≤ 1000000000) (i : Int) (h0 : 0 ≤ i) (hi : i ≤ 9223372036854775807) :
    Calls Tryd.prog 20 #[.pointer (some ⟨q, 0, none⟩), .slice a n c, .int .i64 i] w fun e w' => e = .returned (.bool true) ∧ Below w.heap.size w w' := by
  obtain rfl := hl.1
  have HD := Lib.hid hD
  have HL := Lib.hid hl
  clear hD hl
  have hfn := walkf_nil #[.pointer (some ⟨w.heap.size + 1 + 1 + 1 + 1, 0, none⟩), .pointer (some ⟨w.heap.size + 1 + 1 + 1, 0, none⟩)]
  have t0 : decide (i < 0) = false := decide_eq_false (by omega)
  refine (callsIn_wide (n := 3)).1 ?_
  refine callsIn_of_wp_marks Tryd.func20 rfl trivial ?_ rfl
  simp only [Tryd.ntmps20, List.size_toArray, List.length_cons, List.length_nil, Nat.reduceAdd, Nat.reduceSub, Array.replicate_succ, Array.replicate_zero, List.push_toArray, List.append_toArray, List.nil_append, List.cons_append]
  gi_wp2_with (refine ⟨trivial, ?_⟩; gi_at_call 26; refine (callsIn_wide.2 (walk_any _ q i)).mono ?_; rintro e w' ⟨rfl, rfl⟩)
  obtain ⟨W0, hW0⟩ : ∃ W0, W0 = ((((w.alloc (.cells #[.slice a es.length c] 30)).alloc (.cells #[.bool false] 4)).alloc (.cells #[.int .i64 i] 3)).alloc (.cells #[.pointer (some ⟨q, 0, none⟩)] 24)).alloc (.cells #[.int .i64 i] 3) := ⟨_, rfl⟩
  rw [← hW0]
  have hz : W0.heap.size = w.heap.size + 1 + 1 + 1 + 1 + 1 := by rw [hW0]; simp
  have hB0 : Below w.heap.size w W0 := by rw [hW0]; exact (((((Below.refl _ w).alloc (Nat.le_refl _) _).alloc (by simp) _).alloc (by first | (simp; done) | (simp; omega)) _).alloc (by first | (simp; done) | (simp; omega)) _).alloc (by first | (simp; done) | (simp; omega)) _
  have g0 : W0.heap[w.heap.size]? = some (.cells #[.slice a es.length c] 30 (0, 0)) := by
    rw [hW0]; exact (Below.heap_alloc _ _ _ (by first | (simp; done) | (simp; omega))).trans ((Below.heap_alloc _ _ _ (by first | (simp; done) | (simp; omega))).trans ((Below.heap_alloc _ _ _ (by first | (simp; done) | (simp; omega))).trans ((Below.heap_alloc _ _ _ (by simp)).trans (heap_alloc_new w _))))
  have g1 : W0.heap[w.heap.size + 1]? = some (.cells #[.bool false] 4 (0, 0)) := by
    rw [hW0]; exact (Below.heap_alloc _ _ _ (by first | (simp; done) | (simp; omega))).trans ((Below.heap_alloc _ _ _ (by first | (simp; done) | (simp; omega))).trans ((Below.heap_alloc _ _ _ (by simp)).trans (by have := heap_alloc_new (w.alloc (.cells #[.slice a es.length c] 30)) (.cells #[.bool false] 4); rwa [World.size_alloc] at this)))
  have g2 : W0.heap[w.heap.size + 1 + 1]? = some (.cells #[.int .i64 i] 3 (0, 0)) := by
    rw [hW0]; exact (Below.heap_alloc _ _ _ (by first | (simp; done) | (simp; omega))).trans ((Below.heap_alloc _ _ _ (by simp)).trans (by have := heap_alloc_new ((w.alloc (.cells #[.slice a es.length c] 30)).alloc (.cells #[.bool false] 4)) (.cells #[.int .i64 i] 3); rwa [World.size_alloc, World.size_alloc] at this))
  have g3 : W0.heap[w.heap.size + 1 + 1 + 1]? = some (.cells #[.pointer (some ⟨q, 0, none⟩)] 24 (0, 0)) := by
    rw [hW0]; exact (Below.heap_alloc _ _ _ (by simp)).trans (by have := heap_alloc_new (((w.alloc (.cells #[.slice a es.length c] 30)).alloc (.cells #[.bool false] 4)).alloc (.cells #[.int .i64 i] 3)) (.cells #[.pointer (some ⟨q, 0, none⟩)] 24); rwa [World.size_alloc, World.size_alloc, World.size_alloc] at this)
  have g4 : W0.heap[w.heap.size + 1 + 1 + 1 + 1]? = some (.cells #[.int .i64 i] 3 (0, 0)) := by
    rw [hW0]; have := heap_alloc_new ((((w.alloc (.cells #[.slice a es.length c] 30)).alloc (.cells #[.bool false] 4)).alloc (.cells #[.int .i64 i] 3)).alloc (.cells #[.pointer (some ⟨q, 0, none⟩)] 24)) (.cells #[.int .i64 i] 3); rwa [World.size_alloc, World.size_alloc, World.size_alloc, World.size_alloc] at this
  clear hW0
  refine wpIn_rangeFunc_ownH (F := Fence.wide) (n := 3) rfl (by omega) (gf := 53) (lb := #[.pointer (some ⟨w.heap.size + 1 + 1 + 1 + 1, 0, none⟩), .pointer (some ⟨w.heap.size + 1 + 1 + 1, 0, none⟩)]) rfl trivial (enters_of Tryd.func53 (by kernel_rfl) rfl)
    (walk_stops Fence.wide 2 trivial rfl (by omega) w base q v es HD.out hel (w.heap.size + 1 + 1 + 1) (w.heap.size + 1 + 1 + 1 + 1) i hi W0 hB0 g3 g4) (fun h k => KpW.trans h k) (KpW.putObj (by omega) (by omega) (by omega)) (Below.refl _ _) (fun _ => rfl)
    (fun pre W => (pre = walkL es i.toNat pre.length ∧ W.heap[w.heap.size]? = some (.cells #[.slice a es.length c] 30 (0, 0)) ∧ W.heap[w.heap.size + 1]? = some (.cells #[.bool false] 4 (0, 0)) ∧ W.heap[w.heap.size + 1 + 1]? = some (.cells #[.int .i64 (i.toNat + pre.length : Nat)] 3 (0, 0)) ∧ W0.heap.size ≤ W.heap.size) ∧ Below w.heap.size w W)
    (fun cd pre W => (cd = .ret ∧ pre ≠ walkL es i.toNat pre.length) ∧ Below w.heap.size w W)
    (fun s A B row hs hg hr => ⟨⟨hs.1.1, own_blk (by omega) hs.1.2.1 hg hr, own_blk (by omega) hs.1.2.2.1 hg hr, own_blk (by omega) hs.1.2.2.2.1 hg hr, Nat.le_trans hs.1.2.2.2.2 hg.size⟩, (ownFrom_below (β := Unit) (Nat.le_refl _) (by omega)) () A B row hs.2 hg hr⟩)
    (fun cd s A B row hs hg hr => ⟨hs.1, (ownFrom_below (β := Unit) (Nat.le_refl _) (by omega)) () A B row hs.2 hg hr⟩)
    ⟨⟨rfl, g0, g1, by rw [g2]; congr 4; simp; omega, Nat.le_refl _⟩, hB0⟩
    (fun x a' W => ∃ Bx, a' = { tmps := #[.pointer (some ⟨q, 0, none⟩), .slice a es.length c, .int .i64 i, undef, .pointer (some ⟨w.heap.size, 0, none⟩), undef, .pointer (some ⟨w.heap.size + 1, 0, none⟩), .pointer (some ⟨w.heap.size + 1 + 1, 0, none⟩), .func (.func 53) #[] #[.pointer (some ⟨w.heap.size + 1 + 1 + 1 + 1, 0, none⟩), .pointer (some ⟨w.heap.size + 1 + 1 + 1, 0, none⟩)], .int .i64 (x.1 : Nat), .pointer (some ⟨Bx, 0, none⟩), .int .i64 i, .int .i64 i, .bool false, .pointer (some ⟨q, 0, none⟩), .int .i64 i, .func (.func 53) #[] #[.pointer (some ⟨w.heap.size + 1 + 1 + 1 + 1, 0, none⟩), .pointer (some ⟨w.heap.size + 1 + 1 + 1, 0, none⟩)], .func (.func 53) #[] #[.pointer (some ⟨w.heap.size + 1 + 1 + 1 + 1, 0, none⟩), .pointer (some ⟨w.heap.size + 1 + 1 + 1, 0, none⟩)], .bool false, .func (.func 53) #[] #[.pointer (some ⟨w.heap.size + 1 + 1 + 1 + 1, 0, none⟩), .pointer (some ⟨w.heap.size + 1 + 1 + 1, 0, none⟩)], .int .i64 (x.1 : Nat), .agg #[.string x.2.k, .int .i64 x.2.d, .int .i64 x.2.t, .int .i64 x.2.a, .int .i64 x.2.s], undef, undef, undef, undef, undef, undef, undef, undef, undef, undef, undef, undef, undef, undef, undef, undef, undef, undef, undef, undef, undef, undef, undef], defers := [] } ∧ W.heap[Bx]? = some (.cells #[.string x.2.k, .int .i64 x.2.d, .int .i64 x.2.t, .int .i64 x.2.a, .int .i64 x.2.s] 32 (0, 0)))
    (fun x a' s A B row hs hg hr => by obtain ⟨Bx, e, hb⟩ := hs; exact ⟨Bx, e, own_cells hb hg hr⟩) ?assign ?body ?done ?stop
  case assign =>
    intro l pre x W K hI hK
    obtain ⟨⟨hpre, b0, b1, b2, hzz⟩, hB⟩ := hI
    have hzW := hB.size
    have l0 := lt_of_heap b2
    have HKK := Lib.hid hK
    have HPRE := Lib.hid hpre
    clear hK hpre
    unfold encE
    gi_wp2
    exact HKK.out _ _ ((KeepsOthers.alloc _ _).from _) (KpW.of_below ((Below.refl _ W).alloc (Nat.le_refl _) _) hB.size (by omega) (by omega)) ⟨⟨HPRE.out, (Below.heap_alloc W _ _ (lt_of_heap b0)).trans b0, (Below.heap_alloc W _ _ (lt_of_heap b1)).trans b1, (Below.heap_alloc W _ _ l0).trans b2, Nat.le_trans hzz (by simp)⟩, hB.alloc hB.size _⟩ ⟨W.heap.size, rfl, heap_alloc_new W _⟩
  case body =>
    rintro l pre ⟨xk, ⟨xs, xd, xt, xa, xz⟩⟩ a' W hle hr ⟨⟨hpre, b0, b1, b2, hzz⟩, hB⟩ ⟨Bx, rfl, hbx⟩ hlt
    obtain ⟨b, o, rfl, hat⟩ := (HL.out.below hB (Nat.le_refl _)).at_ (by omega)
    obtain ⟨p, hp⟩ : ∃ p, i.toNat + pre.length = p := ⟨_, rfl⟩
    have hpl : p < es.length := by omega
    have hen := hat p hpl
    have hee := entD_eq es p hpl
    obtain ⟨en, hene⟩ : ∃ en, es[p] = en := ⟨_, rfl⟩
    rw [hene] at hen hee
    obtain ⟨ek, ed, et, ea, es'⟩ := en
    obtain ⟨f0, f1, f2, f3, f4⟩ := hen
    simp only at f0 f1 f2 f3 f4
    rw [hp] at b2
    have c0 : W.cell? ⟨w.heap.size, 0, none⟩ = some (.slice (some ⟨b, o, none⟩) es.length c) := blk_cell b0 0
    have c1 : W.cell? ⟨w.heap.size + 1, 0, none⟩ = some (.bool false) := blk_cell b1 0
    have c2 : W.cell? ⟨w.heap.size + 1 + 1, 0, none⟩ = some (.int .i64 (p : Nat)) := blk_cell b2 0
    have z1 : W.frozen? ⟨w.heap.size + 1, 0, none⟩ = false := blk_frozen b1 0
    have z2 : W.frozen? ⟨w.heap.size + 1 + 1, 0, none⟩ = false := blk_frozen b2 0
    have d0 : W.cell? ⟨Bx, 0, none⟩ = some (.string xs) := blk_cell hbx 0
    have d1 : W.cell? ⟨Bx, 1, none⟩ = some (.int .i64 xd) := blk_cell hbx 1
    have d2 : W.cell? ⟨Bx, 2, none⟩ = some (.int .i64 xt) := blk_cell hbx 2
    have d3 : W.cell? ⟨Bx, 3, none⟩ = some (.int .i64 xa) := blk_cell hbx 3
    have d4 : W.cell? ⟨Bx, 4, none⟩ = some (.int .i64 xz) := blk_cell hbx 4
    have tl : decide (es.length ≤ p) = false := decide_eq_false (by omega)
    have i1 : (p : Int) < (es.length : Int) := by omega
    have hgd := guard_ent
    have hwsu := walkL_succ es i.toNat pre.length
    rw [hp, hee] at hwsu
    have hlen : ∀ y, (pre ++ [y]).length = pre.length + 1 := fun y => by simp
    have hKF : ∀ (k : Nat) (u : Value) (m : Nat), KeepsFrom W0.heap.size W ((W.drewN m).setCell ⟨k, 0, none⟩ u) := fun k u m => ((show KeepsOthers W (W.drewN m) from ⟨Nat.le_refl _, fun _ _ h _ => h⟩).trans (KeepsOthers.setCell (W.drewN m) _ _)).from _
    have HW := Lib.hid hwsu
    have HPRE := Lib.hid hpre
    have HP := Lib.hid hp
    have HB := Lib.hid hB
    have HLEN := Lib.hid hlen
    have HKF := Lib.hid hKF
    have H0 := Lib.hid b0
    have H1 := Lib.hid b1
    have H2 := Lib.hid b2
    clear hwsu hpre hp hat hee hene b0 b1 b2 hbx hlen hKF hr
    by_cases hk : xk = p
    · subst hk
      have t1 : (((xk : Nat) : Int) != ((xk : Nat) : Int)) = false := by simp
      have heq := fun w => neq_ent w ⟨xs, xd, xt, xa, xz⟩ ⟨ek, ed, et, ea, es'⟩
      simp only at heq
      cases hq : entEq ⟨xs, xd, xt, xa, xz⟩ ⟨ek, ed, et, ea, es'⟩ with
      | true =>
        rw [hq, Bool.not_true] at heq
        have hx := (entEq_iff _ _).1 hq
        have HX := Lib.hid hx
        clear hq hx
        gi_wp2
        refine region_quiet_r (by kernel_rfl) (by kernel_rfl) (by kernel_rfl) ?_
        repeat (quiet_step_in (fail))
        refine wpQuietIn_nil ?_
        intro _ hw'
        obtain ⟨nq, hw''⟩ := hw'
        subst hw''
        gi_wp2
        have hle := HLEN.out (xk, (⟨xs, xd, xt, xa, xz⟩ : EntV))
        have e1 : ((i.toNat + (pre ++ [(xk, (⟨xs, xd, xt, xa, xz⟩ : EntV))]).length : Nat) : Int) = (xk : Int) + 1 := by rw [hle, ← Nat.add_assoc, HP.out]; rfl
        refine ⟨HKF.out _ _ _, ⟨(below_drewN (Below.refl _ _) _).setCell (p := ⟨w.heap.size + 1 + 1, 0, none⟩) (by simp only; omega) _, Below.heap_setCell _ ⟨w.heap.size + 1 + 1, 0, none⟩ _ _ (by simp only; omega), Below.heap_setCell _ ⟨w.heap.size + 1 + 1, 0, none⟩ _ _ (by simp only; omega)⟩, ⟨⟨?_, ?_, ?_, ?_, ?_⟩, (below_drewN HB.out _).setCell (p := ⟨w.heap.size + 1 + 1, 0, none⟩) (by simp only; omega) _⟩⟩
        · rw [hle, HW.out, ← HPRE.out, HX.out]
        · exact (Below.heap_setCell _ ⟨w.heap.size + 1 + 1, 0, none⟩ _ _ (by simp only; omega)).trans H0.out
        · exact (Below.heap_setCell _ ⟨w.heap.size + 1 + 1, 0, none⟩ _ _ (by simp only; omega)).trans H1.out
        · rw [e1]; exact blk_set (w := W.drewN _) H2.out 0 _
        · simpa [World.setCell] using hzz
      | false =>
        rw [hq, Bool.not_false] at heq
        have hne : ¬ (⟨xs, xd, xt, xa, xz⟩ : EntV) = ⟨ek, ed, et, ea, es'⟩ := fun e => by rw [(entEq_iff _ _).2 e] at hq; cases hq
        have HNE := Lib.hid hne
        clear hq hne
        gi_wp2
        refine region_quiet_r (by kernel_rfl) (by kernel_rfl) (by kernel_rfl) ?_
        repeat (quiet_step_in (fail))
        refine wpQuietIn_nil ?_
        intro _ hw'
        obtain ⟨nq, hw''⟩ := hw'
        subst hw''
        gi_wp2
        refine ⟨HKF.out _ _ _, ⟨rfl, fun e => ?_⟩, (below_drewN HB.out _).setCell (p := ⟨w.heap.size + 1, 0, none⟩) (by simp) _⟩
        rw [HLEN.out, HW.out, ← HPRE.out] at e
        have e2 := List.append_cancel_left e
        simp only [List.cons.injEq, Prod.mk.injEq, and_true, true_and] at e2
        exact HNE.out e2
    · have t1 : (((xk : Nat) : Int) != ((p : Nat) : Int)) = true := by simp; omega
      have HK := Lib.hid hk
      clear hk
      gi_wp2
      refine region_quiet_r (by kernel_rfl) (by kernel_rfl) (by kernel_rfl) ?_
      repeat (quiet_step_in (fail))
      refine wpQuietIn_nil ?_
      intro _ hw'
      obtain ⟨nq, hw''⟩ := hw'
      subst hw''
      gi_wp2
      refine ⟨HKF.out _ _ _, ⟨rfl, fun e => ?_⟩, (below_drewN HB.out _).setCell (p := ⟨w.heap.size + 1, 0, none⟩) (by simp) _⟩
      rw [HLEN.out, HW.out, ← HPRE.out] at e
      have e2 := List.append_cancel_left e
      simp only [List.cons.injEq, Prod.mk.injEq, and_true] at e2
      exact HK.out e2.1
  case done =>
    rintro D ys W hDD rfl ⟨⟨hpre, b0, b1, b2, hzz⟩, hB⟩ hK
    rw [walkL_length] at b2
    have c0 : W.cell? ⟨w.heap.size, 0, none⟩ = some (.slice a es.length c) := blk_cell b0 0
    have c1 : W.cell? ⟨w.heap.size + 1, 0, none⟩ = some (.bool false) := blk_cell b1 0
    have c2 : W.cell? ⟨w.heap.size + 1 + 1, 0, none⟩ = some (.int .i64 (i.toNat + (es.length - i.toNat) : Nat)) := blk_cell b2 0
    have z1 : W.frozen? ⟨w.heap.size + 1, 0, none⟩ = false := blk_frozen b1 0
    obtain ⟨p, hp⟩ : ∃ p, i.toNat + (es.length - i.toNat) = p := ⟨_, rfl⟩
    rw [hp] at c2
    have tl : decide (es.length ≤ p) = true := decide_eq_true (by omega)
    have hK' := (KeepsOthers.setCell W ⟨w.heap.size + 1, 0, none⟩ (.bool true)).same D _ hK rfl
    have hc5 := cell_kept (World.cell?_setCell_same' W ⟨w.heap.size + 1, 0, none⟩ (.bool true) (by rw [c1]; rfl)) (grownBy_putObj' _ D (.deferred none)) (fun r e => by cases e; exact ⟨_, hK', rfl⟩)
    have HK' := Lib.hid hK'
    have HC5 := Lib.hid hc5
    have HB := Lib.hid hB
    clear hK hK' hc5 hB hpre b0 b1 b2 hp
    gi_wp2
    refine ⟨by simp, .inl ⟨_, _, rfl, run_takeDeferred HK'.out, ?_⟩⟩
    refine ⟨.bool true, ?_, rfl, (HB.out.setCell (p := ⟨w.heap.size + 1, 0, none⟩) (by simp) _).trans (belowK_b (w := w) (Nat.le_refl _) _ D _ _ (by omega) HK'.out rfl rfl)⟩
    have hc5 := HC5.out
    simp [results, Tryd.f20, go_sem, hc5]
  case stop =>
    rintro D cd pre W hD ⟨k, hk, rfl⟩ ⟨⟨rfl, hne⟩, hB⟩ hK
    exact absurd (by rw [walkL_length]) hne
set_option maxRecDepth 100000 in
set_option maxHeartbeats 4000000 in
theorem walked_neg (w : World) (base q : Nat) (v : Value) (es : List EntV) (hD : DictAt w base q v es) (a : Option Addr) (n c : Nat) (hl : RdEnt w a n es) (hel : es.length ≤ 1000000000) (i : Int) (h0 : i < 0) (hi : i ≤ 9223372036854775807) :
    Calls Tryd.prog 20 #[.pointer (some ⟨q, 0, none⟩), .slice a n c, .int .i64 i] w fun e w' => e = .returned (.bool true) ∧ Below w.heap.size w w' := by
  obtain rfl := hl.1
  have HD := Lib.hid hD
  have HL := Lib.hid hl
  clear hD hl
  have hfn := walkf_nil #[.pointer (some ⟨w.heap.size + 1 + 1 + 1 + 1, 0, none⟩), .pointer (some ⟨w.heap.size + 1 + 1 + 1, 0, none⟩)]
  have t0 : decide (i < 0) = true := decide_eq_true (by omega)
  refine (callsIn_wide (n := 3)).1 ?_
  refine callsIn_of_wp_marks Tryd.func20 rfl trivial ?_ rfl
  simp only [Tryd.ntmps20, List.size_toArray, List.length_cons, List.length_nil, Nat.reduceAdd, Nat.reduceSub, Array.replicate_succ, Array.replicate_zero, List.push_toArray, List.append_toArray, List.nil_append, List.cons_append]
  gi_wp2_with (refine ⟨trivial, ?_⟩; gi_at_call 26; refine (callsIn_wide.2 (walk_any _ q i)).mono ?_; rintro e w' ⟨rfl, rfl⟩)
  obtain ⟨W0, hW0⟩ : ∃ W0, W0 = ((((w.alloc (.cells #[.slice a es.length c] 30)).alloc (.cells #[.bool false] 4)).alloc (.cells #[.int .i64 0] 3)).alloc (.cells #[.pointer (some ⟨q, 0, none⟩)] 24)).alloc (.cells #[.int .i64 i] 3) := ⟨_, rfl⟩
  rw [← hW0]
  have hz : W0.heap.size = w.heap.size + 1 + 1 + 1 + 1 + 1 := by rw [hW0]; simp
  have hB0 : Below w.heap.size w W0 := by rw [hW0]; exact (((((Below.refl _ w).alloc (Nat.le_refl _) _).alloc (by simp) _).alloc (by first | (simp; done) | (simp; omega)) _).alloc (by first | (simp; done) | (simp; omega)) _).alloc (by first | (simp; done) | (simp; omega)) _
  have g0 : W0.heap[w.heap.size]? = some (.cells #[.slice a es.length c] 30 (0, 0)) := by
    rw [hW0]; exact (Below.heap_alloc _ _ _ (by first | (simp; done) | (simp; omega))).trans ((Below.heap_alloc _ _ _ (by first | (simp; done) | (simp; omega))).trans ((Below.heap_alloc _ _ _ (by first | (simp; done) | (simp; omega))).trans ((Below.heap_alloc _ _ _ (by simp)).trans (heap_alloc_new w _))))
  have g1 : W0.heap[w.heap.size + 1]? = some (.cells #[.bool false] 4 (0, 0)) := by
    rw [hW0]; exact (Below.heap_alloc _ _ _ (by first | (simp; done) | (simp; omega))).trans ((Below.heap_alloc _ _ _ (by first | (simp; done) | (simp; omega))).trans ((Below.heap_alloc _ _ _ (by simp)).trans (by have := heap_alloc_new (w.alloc (.cells #[.slice a es.length c] 30)) (.cells #[.bool false] 4); rwa [World.size_alloc] at this)))
  have g2 : W0.heap[w.heap.size + 1 + 1]? = some (.cells #[.int .i64 0] 3 (0, 0)) := by
    rw [hW0]; exact (Below.heap_alloc _ _ _ (by first | (simp; done) | (simp; omega))).trans ((Below.heap_alloc _ _ _ (by simp)).trans (by have := heap_alloc_new ((w.alloc (.cells #[.slice a es.length c] 30)).alloc (.cells #[.bool false] 4)) (.cells #[.int .i64 0] 3); rwa [World.size_alloc, World.size_alloc] at this))
  have g3 : W0.heap[w.heap.size + 1 + 1 + 1]? = some (.cells #[.pointer (some ⟨q, 0, none⟩)] 24 (0, 0)) := by
    rw [hW0]; exact (Below.heap_alloc _ _ _ (by simp)).trans (by have := heap_alloc_new (((w.alloc (.cells #[.slice a es.length c] 30)).alloc (.cells #[.bool false] 4)).alloc (.cells #[.int .i64 0] 3)) (.cells #[.pointer (some ⟨q, 0, none⟩)] 24); rwa [World.size_alloc, World.size_alloc, World.size_alloc] at this)
  have g4 : W0.heap[w.heap.size + 1 + 1 + 1 + 1]? = some (.cells #[.int .i64 i] 3 (0, 0)) := by
    rw [hW0]; have := heap_alloc_new ((((w.alloc (.cells #[.slice a es.length c] 30)).alloc (.cells #[.bool false] 4)).alloc (.cells #[.int .i64 0] 3)).alloc (.cells #[.pointer (some ⟨q, 0, none⟩)] 24)) (.cells #[.int .i64 i] 3); rwa [World.size_alloc, World.size_alloc, World.size_alloc, World.size_alloc] at this
  clear hW0
  refine wpIn_rangeFunc_ownH (F := Fence.wide) (n := 3) rfl (by omega) (gf := 53) (lb := #[.pointer (some ⟨w.heap.size + 1 + 1 + 1 + 1, 0, none⟩), .pointer (some ⟨w.heap.size + 1 + 1 + 1, 0, none⟩)]) rfl trivial (enters_of Tryd.func53 (by kernel_rfl) rfl)
    (walk_stops Fence.wide 2 trivial rfl (by omega) w base q v es HD.out hel (w.heap.size + 1 + 1 + 1) (w.heap.size + 1 + 1 + 1 + 1) i hi W0 hB0 g3 g4) (fun h k => KpW.trans h k) (KpW.putObj (by omega) (by omega) (by omega)) (Below.refl _ _) (fun _ => rfl)
    (fun pre W => (pre = walkL es i.toNat pre.length ∧ W.heap[w.heap.size]? = some (.cells #[.slice a es.length c] 30 (0, 0)) ∧ W.heap[w.heap.size + 1]? = some (.cells #[.bool false] 4 (0, 0)) ∧ W.heap[w.heap.size + 1 + 1]? = some (.cells #[.int .i64 (i.toNat + pre.length : Nat)] 3 (0, 0)) ∧ W0.heap.size ≤ W.heap.size) ∧ Below w.heap.size w W)
    (fun cd pre W => (cd = .ret ∧ pre ≠ walkL es i.toNat pre.length) ∧ Below w.heap.size w W)
    (fun s A B row hs hg hr => ⟨⟨hs.1.1, own_blk (by omega) hs.1.2.1 hg hr, own_blk (by omega) hs.1.2.2.1 hg hr, own_blk (by omega) hs.1.2.2.2.1 hg hr, Nat.le_trans hs.1.2.2.2.2 hg.size⟩, (ownFrom_below (β := Unit) (Nat.le_refl _) (by omega)) () A B row hs.2 hg hr⟩)
    (fun cd s A B row hs hg hr => ⟨hs.1, (ownFrom_below (β := Unit) (Nat.le_refl _) (by omega)) () A B row hs.2 hg hr⟩)
    ⟨⟨rfl, g0, g1, by rw [g2]; congr 4; simp; omega, Nat.le_refl _⟩, hB0⟩
    (fun x a' W => ∃ Bx, a' = { tmps := #[.pointer (some ⟨q, 0, none⟩), .slice a es.length c, .int .i64 i, undef, .pointer (some ⟨w.heap.size, 0, none⟩), undef, .pointer (some ⟨w.heap.size + 1, 0, none⟩), .pointer (some ⟨w.heap.size + 1 + 1, 0, none⟩), .func (.func 53) #[] #[.pointer (some ⟨w.heap.size + 1 + 1 + 1 + 1, 0, none⟩), .pointer (some ⟨w.heap.size + 1 + 1 + 1, 0, none⟩)], .int .i64 (x.1 : Nat), .pointer (some ⟨Bx, 0, none⟩), .int .i64 i, .int .i64 i, .bool true, .pointer (some ⟨q, 0, none⟩), .int .i64 i, .func (.func 53) #[] #[.pointer (some ⟨w.heap.size + 1 + 1 + 1 + 1, 0, none⟩), .pointer (some ⟨w.heap.size + 1 + 1 + 1, 0, none⟩)], .func (.func 53) #[] #[.pointer (some ⟨w.heap.size + 1 + 1 + 1 + 1, 0, none⟩), .pointer (some ⟨w.heap.size + 1 + 1 + 1, 0, none⟩)], .bool false, .func (.func 53) #[] #[.pointer (some ⟨w.heap.size + 1 + 1 + 1 + 1, 0, none⟩), .pointer (some ⟨w.heap.size + 1 + 1 + 1, 0, none⟩)], .int .i64 (x.1 : Nat), .agg #[.string x.2.k, .int .i64 x.2.d, .int .i64 x.2.t, .int .i64 x.2.a, .int .i64 x.2.s], undef, undef, undef, undef, undef, undef, undef, undef, undef, undef, undef, undef, undef, undef, undef, undef, undef, undef, undef, undef, undef, undef, undef], defers := [] } ∧ W.heap[Bx]? = some (.cells #[.string x.2.k, .int .i64 x.2.d, .int .i64 x.2.t, .int .i64 x.2.a, .int .i64 x.2.s] 32 (0, 0)))
    (fun x a' s A B row hs hg hr => by obtain ⟨Bx, e, hb⟩ := hs; exact ⟨Bx, e, own_cells hb hg hr⟩) ?assign ?body ?done ?stop
  case assign =>
    intro l pre x W K hI hK
    obtain ⟨⟨hpre, b0, b1, b2, hzz⟩, hB⟩ := hI
    have hzW := hB.size
    have l0 := lt_of_heap b2
    have HKK := Lib.hid hK
    have HPRE := Lib.hid hpre
    clear hK hpre
    unfold encE
    gi_wp2
    exact HKK.out _ _ ((KeepsOthers.alloc _ _).from _) (KpW.of_below ((Below.refl _ W).alloc (Nat.le_refl _) _) hB.size (by omega) (by omega)) ⟨⟨HPRE.out, (Below.heap_alloc W _ _ (lt_of_heap b0)).trans b0, (Below.heap_alloc W _ _ (lt_of_heap b1)).trans b1, (Below.heap_alloc W _ _ l0).trans b2, Nat.le_trans hzz (by simp)⟩, hB.alloc hB.size _⟩ ⟨W.heap.size, rfl, heap_alloc_new W _⟩
  case body =>
    rintro l pre ⟨xk, ⟨xs, xd, xt, xa, xz⟩⟩ a' W hle hr ⟨⟨hpre, b0, b1, b2, hzz⟩, hB⟩ ⟨Bx, rfl, hbx⟩ hlt
    obtain ⟨b, o, rfl, hat⟩ := (HL.out.below hB (Nat.le_refl _)).at_ (by omega)
    obtain ⟨p, hp⟩ : ∃ p, i.toNat + pre.length = p := ⟨_, rfl⟩
    have hpl : p < es.length := by omega
    have hen := hat p hpl
    have hee := entD_eq es p hpl
    obtain ⟨en, hene⟩ : ∃ en, es[p] = en := ⟨_, rfl⟩
    rw [hene] at hen hee
    obtain ⟨ek, ed, et, ea, es'⟩ := en
    obtain ⟨f0, f1, f2, f3, f4⟩ := hen
    simp only at f0 f1 f2 f3 f4
    rw [hp] at b2
    have c0 : W.cell? ⟨w.heap.size, 0, none⟩ = some (.slice (some ⟨b, o, none⟩) es.length c) := blk_cell b0 0
    have c1 : W.cell? ⟨w.heap.size + 1, 0, none⟩ = some (.bool false) := blk_cell b1 0
    have c2 : W.cell? ⟨w.heap.size + 1 + 1, 0, none⟩ = some (.int .i64 (p : Nat)) := blk_cell b2 0
    have z1 : W.frozen? ⟨w.heap.size + 1, 0, none⟩ = false := blk_frozen b1 0
    have z2 : W.frozen? ⟨w.heap.size + 1 + 1, 0, none⟩ = false := blk_frozen b2 0
    have d0 : W.cell? ⟨Bx, 0, none⟩ = some (.string xs) := blk_cell hbx 0
    have d1 : W.cell? ⟨Bx, 1, none⟩ = some (.int .i64 xd) := blk_cell hbx 1
    have d2 : W.cell? ⟨Bx, 2, none⟩ = some (.int .i64 xt) := blk_cell hbx 2
    have d3 : W.cell? ⟨Bx, 3, none⟩ = some (.int .i64 xa) := blk_cell hbx 3
    have d4 : W.cell? ⟨Bx, 4, none⟩ = some (.int .i64 xz) := blk_cell hbx 4
    have tl : decide (es.length ≤ p) = false := decide_eq_false (by omega)
    have i1 : (p : Int) < (es.length : Int) := by omega
    have hgd := guard_ent
    have hwsu := walkL_succ es i.toNat pre.length
    rw [hp, hee] at hwsu
    have hlen : ∀ y, (pre ++ [y]).length = pre.length + 1 := fun y => by simp
    have hKF : ∀ (k : Nat) (u : Value) (m : Nat), KeepsFrom W0.heap.size W ((W.drewN m).setCell ⟨k, 0, none⟩ u) := fun k u m => ((show KeepsOthers W (W.drewN m) from ⟨Nat.le_refl _, fun _ _ h _ => h⟩).trans (KeepsOthers.setCell (W.drewN m) _ _)).from _
    have HW := Lib.hid hwsu
    have HPRE := Lib.hid hpre
    have HP := Lib.hid hp
    have HB := Lib.hid hB
    have HLEN := Lib.hid hlen
    have HKF := Lib.hid hKF
    have H0 := Lib.hid b0
    have H1 := Lib.hid b1
    have H2 := Lib.hid b2
    clear hwsu hpre hp hat hee hene b0 b1 b2 hbx hlen hKF hr
    by_cases hk : xk = p
    · subst hk
      have t1 : (((xk : Nat) : Int) != ((xk : Nat) : Int)) = false := by simp
      have heq := fun w => neq_ent w ⟨xs, xd, xt, xa, xz⟩ ⟨ek, ed, et, ea, es'⟩
      simp only at heq
      cases hq : entEq ⟨xs, xd, xt, xa, xz⟩ ⟨ek, ed, et, ea, es'⟩ with
      | true =>
        rw [hq, Bool.not_true] at heq
        have hx := (entEq_iff _ _).1 hq
        have HX := Lib.hid hx
        clear hq hx
        gi_wp2
        refine region_quiet_r (by kernel_rfl) (by kernel_rfl) (by kernel_rfl) ?_
        repeat (quiet_step_in (fail))
        refine wpQuietIn_nil ?_
        intro _ hw'
        obtain ⟨nq, hw''⟩ := hw'
        subst hw''
        gi_wp2
        have hle := HLEN.out (xk, (⟨xs, xd, xt, xa, xz⟩ : EntV))
        have e1 : ((i.toNat + (pre ++ [(xk, (⟨xs, xd, xt, xa, xz⟩ : EntV))]).length : Nat) : Int) = (xk : Int) + 1 := by rw [hle, ← Nat.add_assoc, HP.out]; rfl
        refine ⟨HKF.out _ _ _, ⟨(below_drewN (Below.refl _ _) _).setCell (p := ⟨w.heap.size + 1 + 1, 0, none⟩) (by simp only; omega) _, Below.heap_setCell _ ⟨w.heap.size + 1 + 1, 0, none⟩ _ _ (by simp only; omega), Below.heap_setCell _ ⟨w.heap.size + 1 + 1, 0, none⟩ _ _ (by simp only; omega)⟩, ⟨⟨?_, ?_, ?_, ?_, ?_⟩, (below_drewN HB.out _).setCell (p := ⟨w.heap.size + 1 + 1, 0, none⟩) (by simp only; omega) _⟩⟩
        · rw [hle, HW.out, ← HPRE.out, HX.out]
        · exact (Below.heap_setCell _ ⟨w.heap.size + 1 + 1, 0, none⟩ _ _ (by simp only; omega)).trans H0.out
        · exact (Below.heap_setCell _ ⟨w.heap.size + 1 + 1, 0, none⟩ _ _ (by simp only; omega)).trans H1.out
        · rw [e1]; exact blk_set (w := W.drewN _) H2.out 0 _
        · simpa [World.setCell] using hzz
      | false =>
        rw [hq, Bool.not_false] at heq
        have hne : ¬ (⟨xs, xd, xt, xa, xz⟩ : EntV) = ⟨ek, ed, et, ea, es'⟩ := fun e => by rw [(entEq_iff _ _).2 e] at hq; cases hq
        have HNE := Lib.hid hne
        clear hq hne
        gi_wp2
        refine region_quiet_r (by kernel_rfl) (by kernel_rfl) (by kernel_rfl) ?_
        repeat (quiet_step_in (fail))
        refine wpQuietIn_nil ?_
        intro _ hw'
        obtain ⟨nq, hw''⟩ := hw'
        subst hw''
        gi_wp2
        refine ⟨HKF.out _ _ _, ⟨rfl, fun e => ?_⟩, (below_drewN HB.out _).setCell (p := ⟨w.heap.size + 1, 0, none⟩) (by simp) _⟩
        rw [HLEN.out, HW.out, ← HPRE.out] at e
        have e2 := List.append_cancel_left e
        simp only [List.cons.injEq, Prod.mk.injEq, and_true, true_and] at e2
        exact HNE.out e2
    · have t1 : (((xk : Nat) : Int) != ((p : Nat) : Int)) = true := by simp; omega
      have HK := Lib.hid hk
      clear hk
      gi_wp2
      refine region_quiet_r (by kernel_rfl) (by kernel_rfl) (by kernel_rfl) ?_
      repeat (quiet_step_in (fail))
      refine wpQuietIn_nil ?_
      intro _ hw'
      obtain ⟨nq, hw''⟩ := hw'
      subst hw''
      gi_wp2
      refine ⟨HKF.out _ _ _, ⟨rfl, fun e => ?_⟩, (below_drewN HB.out _).setCell (p := ⟨w.heap.size + 1, 0, none⟩) (by simp) _⟩
      rw [HLEN.out, HW.out, ← HPRE.out] at e
      have e2 := List.append_cancel_left e
      simp only [List.cons.injEq, Prod.mk.injEq, and_true] at e2
      exact HK.out e2.1
  case done =>
    rintro D ys W hDD rfl ⟨⟨hpre, b0, b1, b2, hzz⟩, hB⟩ hK
    rw [walkL_length] at b2
    have c0 : W.cell? ⟨w.heap.size, 0, none⟩ = some (.slice a es.length c) := blk_cell b0 0
    have c1 : W.cell? ⟨w.heap.size + 1, 0, none⟩ = some (.bool false) := blk_cell b1 0
    have c2 : W.cell? ⟨w.heap.size + 1 + 1, 0, none⟩ = some (.int .i64 (i.toNat + (es.length - i.toNat) : Nat)) := blk_cell b2 0
    have z1 : W.frozen? ⟨w.heap.size + 1, 0, none⟩ = false := blk_frozen b1 0
    obtain ⟨p, hp⟩ : ∃ p, i.toNat + (es.length - i.toNat) = p := ⟨_, rfl⟩
    rw [hp] at c2
    have tl : decide (es.length ≤ p) = true := decide_eq_true (by omega)
    have hK' := (KeepsOthers.setCell W ⟨w.heap.size + 1, 0, none⟩ (.bool true)).same D _ hK rfl
    have hc5 := cell_kept (World.cell?_setCell_same' W ⟨w.heap.size + 1, 0, none⟩ (.bool true) (by rw [c1]; rfl)) (grownBy_putObj' _ D (.deferred none)) (fun r e => by cases e; exact ⟨_, hK', rfl⟩)
    have HK' := Lib.hid hK'
    have HC5 := Lib.hid hc5
    have HB := Lib.hid hB
    clear hK hK' hc5 hB hpre b0 b1 b2 hp
    gi_wp2
    refine ⟨by simp, .inl ⟨_, _, rfl, run_takeDeferred HK'.out, ?_⟩⟩
    refine ⟨.bool true, ?_, rfl, (HB.out.setCell (p := ⟨w.heap.size + 1, 0, none⟩) (by simp) _).trans (belowK_b (w := w) (Nat.le_refl _) _ D _ _ (by omega) HK'.out rfl rfl)⟩
    have hc5 := HC5.out
    simp [results, Tryd.f20, go_sem, hc5]
  case stop =>
    rintro D cd pre W hD ⟨k, hk, rfl⟩ ⟨⟨rfl, hne⟩, hB⟩ hK
    exact absurd (by rw [walkL_length]) hne
theorem walked_any (w : World) (base q : Nat) (v : Value) (es : List EntV) (hD : DictAt w base q v es) (a : Option Addr) (n c : Nat) (hl : RdEnt w a n es) (hel : es.length ≤ 1000000000) (i : Int) (hi : i ≤ 9223372036854775807) :
    Calls Tryd.prog 20 #[.pointer (some ⟨q, 0, none⟩), .slice a n c, .int .i64 i] w fun e w' => e = .returned (.bool true) ∧ Below w.heap.size w w' := by
  by_cases h0 : 0 ≤ i
  · exact walked_pos w base q v es hD a n c hl hel i h0 hi
  · exact walked_neg w base q v es hD a n c hl hel i (by omega) hi
end Go.Proofs.YtfeldllcpeibcaaDoor
