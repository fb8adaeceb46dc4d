/- concordhand: a book of lists of bytes and of ints, with the look at it. -/
import Derived.Test.YtmmflhippbegaaaDoorZBook
import Derived.Test.YtmmflhippbegaaaDoorZUnsI
namespace Go.Proofs.YtmmflhippbegaaaDoor
set_option linter.unusedVariables false
open Go.ChangeShapes Go.WideShapes Go.ChangeAt Go.RowKit

/-- A book of lists of bytes and of ints, at block p. -/
structure BookX (w : World) (base p : Nat) (vb vi : Value) (lb li : List Value) : Prop where
  blk : w.heap[p]? = some (.cells #[vb, vi, .slice none 0 0] 43 (0, 0))
  hp : base ≤ p
  ob : Own w base 37 vb lb
  oi : Own w base 23 vi li
  nb : lb = [] → vb = .slice none 0 0
  ni : li = [] → vi = .slice none 0 0
/-- The blocks of a book. -/
def BkB (p : Nat) (vb vi : Value) (k : Nat) : Prop := k = p ∨ vb.ownBlock = some k ∨ vi.ownBlock = some k
theorem BookX.ge {w : World} {base p : Nat} {vb vi : Value} {lb li : List Value} (h : BookX w base p vb vi lb li) : ∀ k, BkB p vb vi k → base ≤ k ∧ k < w.heap.size := by
  rintro k (rfl | hk | hk)
  · exact ⟨h.hp, lt_of_heap h.blk⟩
  · exact h.ob.lt k hk
  · exact h.oi.lt k hk
theorem BookX.below {w w' : World} {base p : Nat} {vb vi : Value} {lb li : List Value} (h : BookX w base p vb vi lb li) (e : Eff (BkB p vb vi) w w') (hb : base ≤ w.heap.size) : Below base w w' := e.below (fun k hk => (h.ge k hk).1) hb
theorem BookX.eff {F : Nat → Prop} {w w' : World} {base p : Nat} {vb vi : Value} {lb li : List Value} (h : BookX w base p vb vi lb li) (e : Eff F w w') (hF : ∀ k, BkB p vb vi k → ¬ F k) : BookX w' base p vb vi lb li :=
  ⟨(e.block p (lt_of_heap h.blk) (hF p (.inl rfl))).trans h.blk, h.hp, h.ob.eff e (fun k hk => hF k (.inr (.inl hk))), h.oi.eff e (fun k hk => hF k (.inr (.inr hk))), h.nb, h.ni⟩
theorem BookX.drewN {w : World} {base p : Nat} {vb vi : Value} {lb li : List Value} (h : BookX w base p vb vi lb li) (d : Nat) : BookX (w.drewN d) base p vb vi lb li := ⟨h.blk, h.hp, h.ob.drewN d, h.oi.drewN d, h.nb, h.ni⟩
/-- A block of another kind is none of a book's. -/
theorem BookX.off {w : World} {base p : Nat} {vb vi : Value} {lb li : List Value} (h : BookX w base p vb vi lb li) {g : Nat} {cs : Array Value} {t : TypeId} {fr : Nat × Nat} (hg : w.heap[g]? = some (.cells cs t fr)) (h1 : t ≠ 43) (h2 : 37 ≠ t) (h3 : 23 ≠ t) : ¬ BkB p vb vi g := by
  rintro (rfl | hk | hk)
  · rw [h.blk] at hg; injection hg with hg; injection hg with _ hg; exact h1 hg.symm
  · exact h.ob.ne_type hg h2 hk
  · exact h.oi.ne_type hg h3 hk
theorem BookX.offOwn {w : World} {base p : Nat} {vb vi : Value} {lb li : List Value} (h : BookX w base p vb vi lb li) {b : Nat} {t : TypeId} {v : Value} {xs : List Value} (ho : Own w b t v xs) (h1 : t ≠ 43) (h2 : 37 ≠ t) (h3 : 23 ≠ t) : ∀ k, v.ownBlock = some k → ¬ BkB p vb vi k := by
  intro k hk
  rcases ho with ⟨rfl, _⟩ | ⟨g', cap, cur, rfl, _, hh, _⟩
  · simp [Value.ownBlock] at hk
  · have : g' = k := by simpa [Value.ownBlock] using hk
    subst this
    exact h.off hh h1 h2 h3
theorem BookX.keep {w w' : World} {base p : Nat} {vb vi : Value} {lb li : List Value} (h : BookX w base p vb vi lb li) (e : Eff (BkB p vb vi) w w') {b : Nat} {t : TypeId} {v : Value} {xs : List Value} (ho : Own w b t v xs) (h1 : t ≠ 43) (h2 : 37 ≠ t) (h3 : 23 ≠ t) : Own w' b t v xs :=
  ho.eff e (h.offOwn ho h1 h2 h3)
theorem BookX.of_new (w : World) : BookX (w.alloc (.cells #[.slice none 0 0, .slice none 0 0, .slice none 0 0] 43)) w.heap.size w.heap.size (.slice none 0 0) (.slice none 0 0) [] [] :=
  ⟨heap_alloc_new w _, Nat.le_refl _, own_nil _ _ _, own_nil _ _ _, fun _ => rfl, fun _ => rfl⟩

set_option maxRecDepth 100000 in
set_option maxHeartbeats 1000000 in
theorem bkB_x (w : World) (base p : Nat) (vb vi : Value) (lb li : List Value) (h : BookX w base p vb vi lb li) (hb : base ≤ w.heap.size) (hl : lb.length ≤ 1000000000) (a : Option Addr) (n c : Nat) :
    Calls Tryd.prog 19 #[.pointer (some ⟨p, 0, none⟩), .slice a n c] w fun e w' => e = .returned (.tuple #[]) ∧ ∃ v', BookX w' base p v' vi (lb ++ [.slice a n c]) li ∧ Eff (BkB p vb vi) w w' := by
  have hc0 : w.cell? ⟨p, 0, none⟩ = some vb := blk_cell h.blk 0
  have hll : lb.length < 1000000000000 := by omega
  obtain ⟨av, nv, cv, rfl⟩ := own_sl h.ob
  have hbo := h.ob
  have H := Lib.hid h
  clear h
  go_enter Tryd.func19, Tryd.ntmps19
  go_wp2_with (at_builtin; with_reducible refine ap1' elLists rfl hbo hll hb rfl _ _ rfl rfl rfl ?_)
  intro v' w1 g1 g2 g3 g4
  have hp1 := Lib.hid ((g4.block _ (lt_of_heap H.out.blk) (fun e => hbo.ne_type H.out.blk (by decide) e.symm)).trans H.out.blk)
  have ho1 := Lib.hid (H.out.oi.kept g4 (by
    cases hv : vi.ownBlock with
    | none => exact .inl rfl
    | some k => exact .inr (fun e => own_types hbo H.out.oi (by decide) e.symm hv)))
  obtain ⟨a1, n1, c1, rfl⟩ := own_sl g1
  have hc1 : w1.cell? ⟨p, 0, none⟩ = some (.slice av nv cv) := blk_cell hp1.out 0
  have hf1 : w1.frozen? ⟨p, 0, none⟩ = false := blk_frozen hp1.out 0
  go_wp2
  go_end0
  have hp2 := blk_set hp1.out 0 (.slice a1 n1 c1)
  exact ⟨rfl, _, ⟨hp2, H.out.hp, g1.setOther (g1.ne_type hp1.out (by decide)) _, ho1.out.setOther (ho1.out.ne_type hp1.out (by decide)) _, fun e => by simp at e, H.out.ni⟩, (((Eff.refl _ _).grown g4 (fun k hk _ => .inr (.inl hk))).setCell (p := ⟨p, 0, none⟩) (fun _ => .inl rfl) _)⟩

set_option maxRecDepth 100000 in
set_option maxHeartbeats 1000000 in
theorem bkI_x (w : World) (base p : Nat) (vb vi : Value) (lb li : List Value) (h : BookX w base p vb vi lb li) (hb : base ≤ w.heap.size) (hl : li.length ≤ 1000000000) (a : Option Addr) (n c : Nat) :
    Calls Tryd.prog 41 #[.pointer (some ⟨p, 0, none⟩), .slice a n c] w fun e w' => e = .returned (.tuple #[]) ∧ ∃ v', BookX w' base p vb v' lb (li ++ [.slice a n c]) ∧ Eff (BkB p vb vi) w w' := by
  have hc0 : w.cell? ⟨p, 1, none⟩ = some vi := blk_cell h.blk 1
  have hll : li.length < 1000000000000 := by omega
  obtain ⟨av, nv, cv, rfl⟩ := own_sl h.oi
  have hbo := h.oi
  have H := Lib.hid h
  clear h
  go_enter Tryd.func41, Tryd.ntmps41
  go_wp2_with (at_builtin; with_reducible refine ap1' elIntLists rfl hbo hll hb rfl _ _ rfl rfl rfl ?_)
  intro v' w1 g1 g2 g3 g4
  have hp1 := Lib.hid ((g4.block _ (lt_of_heap H.out.blk) (fun e => hbo.ne_type H.out.blk (by decide) e.symm)).trans H.out.blk)
  have ho1 := Lib.hid (H.out.ob.kept g4 (by
    cases hv : vb.ownBlock with
    | none => exact .inl rfl
    | some k => exact .inr (fun e => own_types hbo H.out.ob (by decide) e.symm hv)))
  obtain ⟨a1, n1, c1, rfl⟩ := own_sl g1
  have hc1 : w1.cell? ⟨p, 1, none⟩ = some (.slice av nv cv) := blk_cell hp1.out 1
  have hf1 : w1.frozen? ⟨p, 1, none⟩ = false := blk_frozen hp1.out 1
  go_wp2
  go_end0
  have hp2 := blk_set hp1.out 1 (.slice a1 n1 c1)
  exact ⟨rfl, _, ⟨hp2, H.out.hp, ho1.out.setOther (ho1.out.ne_type hp1.out (by decide)) _, g1.setOther (g1.ne_type hp1.out (by decide)) _, H.out.nb, fun e => by simp at e⟩, (((Eff.refl _ _).grown g4 (fun k hk _ => .inr (.inr hk))).setCell (p := ⟨p, 1, none⟩) (fun _ => .inl rfl) _)⟩

/-- Lists that were answered: each lies in memory of its own, no two in one block. -/
structure Rec (w : World) (t : TypeId) (ls : List Value) (C : Nat → List Value) : Prop where
  each : Each w 0 t ls C
  apart : Apart ls
theorem rec_nil (w : World) (t : TypeId) (C : Nat → List Value) : Rec w t [] C := ⟨fun k x hx => by simp at hx, fun a b x y k hx => by simp at hx⟩
theorem Rec.eff {F : Nat → Prop} {w w' : World} {t : TypeId} {ls : List Value} {C : Nat → List Value} (h : Rec w t ls C) (e : Eff F w w') (hF : ∀ k, BlocksOf ls k → ¬ F k) : Rec w' t ls C :=
  ⟨fun k x hx => (h.each k x hx).eff e (fun b hb => hF b ⟨k, x, hx, hb⟩), h.apart⟩
theorem Rec.drewN {w : World} {t : TypeId} {ls : List Value} {C : Nat → List Value} (h : Rec w t ls C) (d : Nat) : Rec (w.drewN d) t ls C := ⟨fun k x hx => (h.each k x hx).drewN d, h.apart⟩
theorem Rec.lt {w : World} {t : TypeId} {ls : List Value} {C : Nat → List Value} (h : Rec w t ls C) : ∀ k, BlocksOf ls k → k < w.heap.size := fun k ⟨j, x, hx, hb⟩ => ((h.each j x hx).lt k hb).2
/-- Is each block of the list one of elements t? -/
theorem Rec.blk {w : World} {t : TypeId} {ls : List Value} {C : Nat → List Value} (h : Rec w t ls C) {k : Nat} (hk : BlocksOf ls k) : ∃ cs, w.heap[k]? = some (.cells cs t (0, 0)) := by
  obtain ⟨j, x, hx, hb⟩ := hk
  rcases h.each j x hx with ⟨rfl, _⟩ | ⟨g', cap, cur, rfl, _, hh, _⟩
  · simp [Value.ownBlock] at hb
  · have : g' = k := by simpa [Value.ownBlock] using hb
    subst this; exact ⟨_, hh⟩
theorem Rec.snoc {w : World} {t : TypeId} {ls : List Value} {C D : Nat → List Value} {H : Nat} {v : Value} {xs : List Value} (h : Rec w t ls C) (ho : Own w H t v xs) (hlt : ∀ k, BlocksOf ls k → k < H) (hC : ∀ k, k < ls.length → D k = C k) (hx : D ls.length = xs) : Rec w t (ls ++ [v]) D := by
  refine ⟨each_snoc (fun k x hk => ?_) (by rw [hx]; exact own_base ho (Nat.zero_le _)), apart_snoc h.apart (fun b y k _ hy hk hyk => ?_)⟩
  · rw [hC k (List.getElem?_eq_some_iff.1 hk).1]; exact h.each k x hk
  · have := hlt k ⟨b, y, hy, hyk⟩
    have := (ho.lt k hk).1
    omega
theorem BookX.keepRec {w w' : World} {base p : Nat} {vb vi : Value} {lb li : List Value} (h : BookX w base p vb vi lb li) (e : Eff (BkB p vb vi) w w') {t : TypeId} {ls : List Value} {C : Nat → List Value} (hr : Rec w t ls C) (h1 : t ≠ 43) (h2 : 37 ≠ t) (h3 : 23 ≠ t) : Rec w' t ls C :=
  hr.eff e (fun k hk => by obtain ⟨cs, hg⟩ := hr.blk hk; exact h.off hg h1 h2 h3)

set_option maxRecDepth 100000 in
set_option maxHeartbeats 1000000 in
theorem un_any (w : World) (base p : Nat) (vb vi : Value) (lb li : List Value) (CB CI : Nat → List Value) (h : BookX w base p vb vi lb li)
    (hB : Rec w 5 lb CB) (hI : Rec w 3 li CI) (hmB : lb.length ≤ 2000000) (hmI : li.length ≤ 2000000) (hCB : ∀ k, (CB k).length ≤ 1000000000) (hCI : ∀ k, (CI k).length ≤ 1000000000) :
    Calls Tryd.prog 21 #[.pointer (some ⟨p, 0, none⟩)] w fun e w' => e = .returned (.bool true) ∧ Eff (fun k => BlocksOf lb k ∨ BlocksOf li k) w w' := by
  have hFp : ¬ BlocksOf lb p := fun hk => by obtain ⟨cs, hg⟩ := hB.blk hk; rw [h.blk] at hg; injection hg with hg; injection hg with _ hg; exact absurd hg (by decide)
  have hFi : ∀ k, vi.ownBlock = some k → ¬ BlocksOf lb k := fun k hv hk => by obtain ⟨cs, hg⟩ := hB.blk hk; exact h.oi.ne_type hg (by decide) hv
  have hFI : ∀ k, BlocksOf li k → ¬ BlocksOf lb k := fun k hi hk => by
    obtain ⟨cs, hg⟩ := hB.blk hk
    obtain ⟨cs2, hg2⟩ := hI.blk hi
    rw [hg] at hg2; injection hg2 with hg2; injection hg2 with _ hg2; exact absurd hg2 (by decide)
  have hFp2 : ¬ BlocksOf li p := fun hk => by obtain ⟨cs, hg⟩ := hI.blk hk; rw [h.blk] at hg; injection hg with hg; injection hg with _ hg; exact absurd hg (by decide)
  have H1 : Calls Tryd.prog 63 #[.pointer (some ⟨p, 0, none⟩)] w fun e w' => e = .returned (.bool true) ∧ Eff (BlocksOf lb) w w' := by
    by_cases h0 : lb = []
    · have hb := h.blk
      rw [h.nb h0] at hb
      exact (uB_nil w p vi _ hb).mono fun e w' ⟨he, e1⟩ => ⟨he, e1.mono (fun _ h _ => h.elim)⟩
    · have h1 : 0 < lb.length := List.length_pos_iff.2 h0
      have hb := h.blk
      have ho := h.ob
      obtain ⟨av, nv, cv, rfl⟩ := own_sl ho
      obtain rfl := ho.len
      obtain ⟨q, rfl⟩ := ho.someAt h1
      exact uB_some w p q cv vi _ lb CB hb (own_base ho (Nat.zero_le _)) hB.each hB.apart hmB hCB
  have HB := Lib.hid h
  have H2 : ∀ w1, Eff (BlocksOf lb) w w1 → Calls Tryd.prog 64 #[.pointer (some ⟨p, 0, none⟩)] w1 fun e w' => e = .returned (.bool true) ∧ Eff (BlocksOf li) w1 w' := by
    intro w1 e1
    have hb : w1.heap[p]? = some (.cells #[vb, vi, .slice none 0 0] 43 (0, 0)) := (e1.block p (lt_of_heap h.blk) hFp).trans h.blk
    have ho : Own w1 base 23 vi li := h.oi.eff e1 hFi
    have hI1 : Rec w1 3 li CI := hI.eff e1 hFI
    by_cases h0 : li = []
    · rw [h.ni h0] at hb
      exact (uI_nil w1 p vb _ hb).mono fun e w' ⟨he, e1⟩ => ⟨he, e1.mono (fun _ h _ => h.elim)⟩
    · have h1 : 0 < li.length := List.length_pos_iff.2 h0
      obtain ⟨av, nv, cv, rfl⟩ := own_sl ho
      obtain rfl := ho.len
      obtain ⟨q, rfl⟩ := ho.someAt h1
      exact uI_some w1 p q cv vb _ li CI hb (own_base ho (Nat.zero_le _)) hI1.each hI1.apart hmI hCI
  have HH2 := Lib.hid H2
  have HF := Lib.hid (And.intro hFp hFp2)
  clear h H2 hFi hFI hFp hFp2
  go_enter Tryd.func21, Tryd.ntmps21
  go_wp2_with fail
  refine H1.mono ?_
  rintro e w1 ⟨rfl, e1⟩
  have C2 := HH2.out w1 e1
  clear H1
  go_wp2_with fail
  refine C2.mono ?_
  rintro e w2 ⟨rfl, e2⟩
  have hb2 : w2.heap[p]? = some (.cells #[vb, vi, .slice none 0 0] 43 (0, 0)) := (e2.block p (lt_of_heap ((e1.block p (lt_of_heap HB.out.blk) HF.out.1).trans HB.out.blk)) HF.out.2).trans ((e1.block p (lt_of_heap HB.out.blk) HF.out.1).trans HB.out.blk)
  have C3 := uT_nil w2 p vb vi hb2
  clear C2 hb2
  go_wp2_with fail
  refine C3.mono ?_
  rintro e w3 ⟨rfl, e3⟩
  clear C3
  go_wp2
  go_ret
  exact ⟨rfl, ((e1.mono (fun _ h _ => .inl h)).trans e2 (fun _ h _ => .inr h)).trans e3 (fun _ h => h.elim)⟩
end Go.Proofs.YtmmflhippbegaaaDoor
