/- A Writer, a list, and a book of what was answered, while Readers read. -/
import Derived.Test.YtmmflhippbegaaaDoorSp
import Derived.Test.YtmmflhippbegaaaDoorBook2
import Derived.Test.YtmmflhippbegaaaDoorRPack
import Derived.Test.YtmmflhippbegaaaDoorGetPut
namespace Go.Proofs.YtmmflhippbegaaaDoor
set_option linter.unusedVariables false
open Go.ChangeShapes Go.WideShapes Go.ChangeAt Go.RowKit

theorem blocks_snoc {ls : List Value} {v : Value} {k : Nat} (h : BlocksOf (ls ++ [v]) k) : BlocksOf ls k ∨ v.ownBlock = some k := by
  obtain ⟨j, x, hx, hb⟩ := h
  rcases Nat.lt_trichotomy j ls.length with hl | hl | hl
  · rw [List.getElem?_append_left hl] at hx; exact .inl ⟨j, x, hx, hb⟩
  · subst hl
    rw [List.getElem?_append_right (Nat.le_refl _), Nat.sub_self] at hx
    simp at hx
    rw [hx]; exact .inr hb
  · rw [List.getElem?_eq_none (by simp; omega)] at hx; cases hx
/-- Recorded lists, their contents of bounded length. -/
def RecX (w : World) (t : TypeId) (ls : List Value) : Prop := ∃ C, Rec w t ls C ∧ ∀ k, (C k).length ≤ 1000000000
theorem recx_nil (w : World) (t : TypeId) : RecX w t [] := ⟨fun _ => [], rec_nil _ _ _, fun _ => by simp⟩
theorem RecX.eff {F : Nat → Prop} {w w' : World} {t : TypeId} {ls : List Value} (h : RecX w t ls) (e : Eff F w w') (hF : ∀ k, BlocksOf ls k → ¬ F k) : RecX w' t ls := by
  obtain ⟨C, h1, h2⟩ := h; exact ⟨C, h1.eff e hF, h2⟩
theorem RecX.lt {w : World} {t : TypeId} {ls : List Value} (h : RecX w t ls) : ∀ k, BlocksOf ls k → k < w.heap.size := by obtain ⟨C, h1, h2⟩ := h; exact h1.lt
theorem RecX.blk {w : World} {t : TypeId} {ls : List Value} (h : RecX w t ls) {k : Nat} (hk : BlocksOf ls k) : ∃ cs, w.heap[k]? = some (.cells cs t (0, 0)) := by obtain ⟨C, h1, h2⟩ := h; exact h1.blk hk
theorem RecX.snoc {w : World} {t : TypeId} {ls : List Value} {H : Nat} {v : Value} {xs : List Value} (h : RecX w t ls) (ho : Own w H t v xs) (hlt : ∀ k, BlocksOf ls k → k < H) (hx : xs.length ≤ 1000000000) : RecX w t (ls ++ [v]) := by
  obtain ⟨C, h1, h2⟩ := h
  refine ⟨fun k => if k = ls.length then xs else C k, h1.snoc ho hlt (fun k hk => if_neg (by omega)) (if_pos rfl), fun k => ?_⟩
  dsimp only
  split
  · exact hx
  · exact h2 k
theorem BookX.recx {w w' : World} {base p : Nat} {vb vi : Value} {lb li : List Value} (h : BookX w base p vb vi lb li) (e : Eff (BkB p vb vi) w w') {t : TypeId} {ls : List Value} (hr : RecX w t ls) (h1 : t ≠ 43) (h2 : 37 ≠ t) (h3 : 23 ≠ t) : RecX w' t ls := by
  obtain ⟨C, k1, k2⟩ := hr; exact ⟨C, h.keepRec e k1 h1 h2 h3, k2⟩

theorem Rdr.lowr {w : World} {B B0 p : Nat} {v : Value} {bs : List UInt8} {k : Nat} (h : Rdr w B p v bs k) (hB : B0 ≤ B) : Rdr w B0 p v bs k := ⟨h.blk, Nat.le_trans hB h.hp, own_base h.own hB, h.le, h.sm⟩
theorem Rdr.under {w w' : World} {base p : Nat} {v : Value} {bs : List UInt8} {k : Nat} (h : Rdr w base p v bs k) (hb : Below w.heap.size w w') : Rdr w' base p v bs k :=
  h.eff (F := fun _ => False) (Eff.of_below hb _) (fun _ _ f => f)
/-- Another Reader's step leaves a Reader alone. -/
theorem Rdr.other {w w' : World} {base p q b2 : Nat} {v v2 : Value} {bs bs2 : List UInt8} {k k2 : Nat} (h : Rdr w base p v bs k) (h2 : Rdr w b2 q v2 bs2 k2) (e : Eff (· = q) w w') (hne : p ≠ q) : Rdr w' base p v bs k :=
  h.eff e (fun k hk hq => by
    subst hq
    rcases hk with hk | hk
    · exact hne hk.symm
    · exact h.own.ne_type h2.blk (by decide) hk)
/-- The book's step leaves a Reader alone. -/
theorem BookX.rdr {w w' : World} {base p : Nat} {vb vi : Value} {lb li : List Value} (h : BookX w base p vb vi lb li) (e : Eff (BkB p vb vi) w w') {b q k : Nat} {v : Value} {bs : List UInt8} (hr : Rdr w b q v bs k) : Rdr w' b q v bs k :=
  hr.eff e (fun k hk => by
    rcases hk with hk | hk
    · subst hk; exact h.off hr.blk (by decide) (by decide) (by decide)
    · exact h.offOwn hr.own (by decide) (by decide) (by decide) k hk)
/-- A Reader's step leaves a list alone. -/
theorem Rdr.keep {w w' : World} {base q b : Nat} {v x : Value} {bs : List UInt8} {k : Nat} {t : TypeId} {xs : List Value} (h : Rdr w base q v bs k) (e : Eff (· = q) w w') (ho : Own w b t x xs) (hne : t ≠ 62) : Own w' b t x xs :=
  ho.eff e (fun k hk hq => by subst hq; exact ho.ne_type h.blk hne hk)

structure TW (w : World) (base H0 pb pw : Nat) (vS vw vb vi : Value) (S : List Int) (out : List UInt8) (lb li : List Value) : Prop where
  bk : BookX w base pb vb vi lb li
  rb : RecX w 5 lb
  ri : RecX w 3 li
  hb : ∀ k, BlocksOf lb k → H0 ≤ k
  hi : ∀ k, BlocksOf li k → H0 ≤ k
  wr : Wr w base pw vw out
  so : Own w base 3 vS (intL S)
  hw : ∀ k, WrB pw vw k → k < H0
  hs : ∀ k, vS.ownBlock = some k → k < H0
section
variable {w w' : World} {base H0 pb pw : Nat} {vS vw vb vi : Value} {S : List Int} {out : List UInt8} {lb li : List Value}
theorem TW.eff {F : Nat → Prop} (h : TW w base H0 pb pw vS vw vb vi S out lb li) (e : Eff F w w') (h1 : ∀ k, BkB pb vb vi k → ¬ F k) (h2 : ∀ k, BlocksOf lb k → ¬ F k) (h3 : ∀ k, BlocksOf li k → ¬ F k) (h4 : ∀ k, WrB pw vw k → ¬ F k) (h5 : ∀ k, vS.ownBlock = some k → ¬ F k) : TW w' base H0 pb pw vS vw vb vi S out lb li :=
  ⟨h.bk.eff e h1, h.rb.eff e h2, h.ri.eff e h3, h.hb, h.hi, h.wr.eff e h4, h.so.eff e h5, h.hw, h.hs⟩
theorem TW.under (h : TW w base H0 pb pw vS vw vb vi S out lb li) (hb : Below w.heap.size w w') : TW w' base H0 pb pw vS vw vb vi S out lb li :=
  h.eff (F := fun _ => False) (Eff.of_below hb _) (fun _ _ f => f) (fun _ _ f => f) (fun _ _ f => f) (fun _ _ f => f) (fun _ _ f => f)
theorem TW.drewN (h : TW w base H0 pb pw vS vw vb vi S out lb li) (d : Nat) : TW (w.drewN d) base H0 pb pw vS vw vb vi S out lb li :=
  h.eff (F := fun _ => False) ((Eff.refl _ _).drewN d) (fun _ _ f => f) (fun _ _ f => f) (fun _ _ f => f) (fun _ _ f => f) (fun _ _ f => f)
/-- A Reader's step. -/
theorem TW.rdr {b q k : Nat} {v : Value} {bs : List UInt8} (h : TW w base H0 pb pw vS vw vb vi S out lb li) (hr : Rdr w b q v bs k) (e : Eff (· = q) w w') : TW w' base H0 pb pw vS vw vb vi S out lb li := by
  refine h.eff e (fun k hk hq => ?_) (fun k hk hq => ?_) (fun k hk hq => ?_) (fun k hk hq => ?_) (fun k hk hq => ?_)
  · subst hq; exact h.bk.off hr.blk (by decide) (by decide) (by decide) hk
  · subst hq; obtain ⟨cs, hg⟩ := h.rb.blk hk; rw [hr.blk] at hg; injection hg with hg; injection hg with _ hg; exact absurd hg (by decide)
  · subst hq; obtain ⟨cs, hg⟩ := h.ri.blk hk; rw [hr.blk] at hg; injection hg with hg; injection hg with _ hg; exact absurd hg (by decide)
  · subst hq
    rcases hk with hk | hk
    · subst hk; have hg := h.wr.blk; rw [hr.blk] at hg; injection hg with hg; injection hg with _ hg; exact absurd hg (by decide)
    · exact h.wr.own.ne_type hr.blk (by decide) hk
  · subst hq; exact h.so.ne_type hr.blk (by decide) hk
theorem TW.offWr (h : TW w base H0 pb pw vS vw vb vi S out lb li) : ∀ k, WrB pw vw k → ¬ BkB pb vb vi k := by
  rintro k (hk | hk)
  · subst hk; exact h.bk.off h.wr.blk (by decide) (by decide) (by decide)
  · exact h.bk.offOwn h.wr.own (by decide) (by decide) (by decide) k hk
/-- A list of bytes goes into the book. -/
theorem TW.addB {H : Nat} {v vb' : Value} {xs : List Value} (h : TW w base H0 pb pw vS vw vb vi S out lb li) (hk : BookX w' base pb vb' vi (lb ++ [v]) li) (e : Eff (BkB pb vb vi) w w') (ho : Own w H 5 v xs) (hlt : ∀ k, BlocksOf lb k → k < H) (hx : xs.length ≤ 1000000000) (hH : H0 ≤ H) :
    TW w' base H0 pb pw vS vw vb' vi S out (lb ++ [v]) li :=
  ⟨hk, (h.bk.recx e h.rb (by decide) (by decide) (by decide)).snoc (h.bk.keep e ho (by decide) (by decide) (by decide)) hlt hx, h.bk.recx e h.ri (by decide) (by decide) (by decide),
    fun k hk => (blocks_snoc hk).elim (h.hb k) (fun h2 => Nat.le_trans hH (ho.lt k h2).1), h.hi, h.wr.eff e h.offWr, h.bk.keep e h.so (by decide) (by decide) (by decide), h.hw, h.hs⟩
theorem TW.addI {H : Nat} {v vi' : Value} {xs : List Value} (h : TW w base H0 pb pw vS vw vb vi S out lb li) (hk : BookX w' base pb vb vi' lb (li ++ [v])) (e : Eff (BkB pb vb vi) w w') (ho : Own w H 3 v xs) (hlt : ∀ k, BlocksOf li k → k < H) (hx : xs.length ≤ 1000000000) (hH : H0 ≤ H) :
    TW w' base H0 pb pw vS vw vb vi' S out lb (li ++ [v]) :=
  ⟨hk, h.bk.recx e h.rb (by decide) (by decide) (by decide), (h.bk.recx e h.ri (by decide) (by decide) (by decide)).snoc (h.bk.keep e ho (by decide) (by decide) (by decide)) hlt hx,
    h.hb, fun k hk => (blocks_snoc hk).elim (h.hi k) (fun h2 => Nat.le_trans hH (ho.lt k h2).1), h.wr.eff e h.offWr, h.bk.keep e h.so (by decide) (by decide) (by decide), h.hw, h.hs⟩
theorem TW.book_below (h : TW w base H0 pb pw vS vw vb vi S out lb li) (e : Eff (BkB pb vb vi) w w') (hb : base ≤ w.heap.size) : Below base w w' := h.bk.below e hb
end

/-! ### The sorted list of CodecTwice -/
structure Asc (S : List Int) (last : Int) : Prop where
  neg : anyNeg S = false
  ri : rises S
  fit : FitL S
  top : ∀ z ∈ S, z ≤ last
  lo : -1 ≤ last
theorem asc_nil : Asc [] (-1) := ⟨rfl, fun i h => (by simp at h), fun z h => (by cases h), fun z h => (by cases h), by omega⟩
theorem Asc.snoc {S : List Int} {last x : Int} (h : Asc S last) (hx : last < x) (hm : x ≤ 9223372036854775807) : Asc (S ++ [x]) x := by
  have hl := h.lo
  refine ⟨?_, ?_, ?_, ?_, by omega⟩
  · have := h.neg; unfold anyNeg at *; rw [List.any_append, this]; simp; omega
  · intro i hi
    simp only [List.length_append, List.length_cons, List.length_nil] at hi
    by_cases e : i + 1 < S.length
    · rw [List.getElem_append_left (by omega), List.getElem_append_left e]; exact h.ri i e
    · have e2 : i + 1 = S.length := by omega
      rw [List.getElem_append_left (by omega), List.getElem_append_right (by omega)]
      have := h.top S[i] (List.getElem_mem (by omega))
      simp [e2]; omega
  · intro z hz
    rcases List.mem_append.1 hz with h2 | h2
    · exact h.fit z h2
    · rw [List.mem_singleton.1 h2]; omega
  · intro z hz
    rcases List.mem_append.1 hz with h2 | h2
    · have := h.top z h2; omega
    · rw [List.mem_singleton.1 h2]; omega
end Go.Proofs.YtmmflhippbegaaaDoor
