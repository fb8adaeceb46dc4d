/- asked: the call over a Reader: the state. -/
import Derived.Test.YtmmflhippbegaaaDoorZBookF
import Derived.Test.YtmmflhippbegaaaDoorZLook
import Derived.Test.YtmmflhippbegaaaDoorZG3
import Derived.Test.YtmmflhippbegaaaDoorZAgain
import Derived.Handy
namespace Go.Proofs.YtmmflhippbegaaaDoor
set_option linter.unusedVariables false
open Go.ChangeShapes Go.WideShapes Go.ChangeAt Go.RowKit

def evE (EA : Nat → Addr) (n : Nat) : Value := if n = 0 then .nilIface else errV EA n
theorem num_any (w : World) (EA : Nat → Addr) (h : Sent w EA) (n : Nat) (hn : n = 0 ∨ ErrN n) : Calls Tryd.prog 31 #[evE EA n] w fun e w' => e = .returned (.int .i64 n) ∧ w = w' := by
  rcases hn with rfl | rfl | rfl | rfl | rfl | rfl
  · exact num_nil w
  · exact num_Short w EA h
  · exact num_Varint w EA h
  · exact num_Limit w EA h
  · exact num_Order w EA h
  · exact num_Range w EA h
/-- The state inside of asked, behind w: c0, c1, c2 are what has been laid of the look. -/
structure AskC (w : World) (base p pk : Nat) (v : Value) (bs : List UInt8) (vb vi : Value) (wx : World) (next : Nat) (c0 c1 c2 vb1 vi1 : Value) (lb1 li1 : List Value) : Prop where
  sz : w.heap.size + 3 ≤ wx.heap.size
  lk : wx.heap[w.heap.size + 1 + 1]? = some (.cells #[c0, c1, c2, .int .i64 0, .int .i64 0] 66 (0, 0))
  rs : wx.heap[w.heap.size + 1]? = some (.cells #[.int .u64 0, .string ⟨#[]⟩, .slice none 0 0, .int .i64 0, .int .i64 0] 66 (0, 0))
  rd : Rdr wx base p v bs next
  bk : BookX wx base pk vb1 vi1 lb1 li1
  ef : Eff (fun i => i = p ∨ BkB pk vb vi i) w wx
  fb : Fresh w.heap.size vb vb1
  fi : Fresh w.heap.size vi vi1
  hp : p < w.heap.size
  hk : pk < w.heap.size
section
variable {w : World} {base p pk : Nat} {v : Value} {bs : List UInt8} {vb vi : Value} {wx w' : World} {next : Nat} {c0 c1 c2 vb1 vi1 : Value} {lb1 li1 : List Value}
theorem AskC.init {lb li : List Value} {k : Nat} (hr : Rdr w base p v bs k) (hb : BookX w base pk vb vi lb li) (o : Obj) :
    AskC w base p pk v bs vb vi (((w.alloc o).alloc (.cells #[.int .u64 0, .string ⟨#[]⟩, .slice none 0 0, .int .i64 0, .int .i64 0] 66)).alloc (.cells #[.int .u64 0, .string ⟨#[]⟩, .slice none 0 0, .int .i64 0, .int .i64 0] 66)) k (.int .u64 0) (.string ⟨#[]⟩) (.slice none 0 0) vb vi lb li := by
  have e : Eff (fun _ => False) w (((w.alloc o).alloc (.cells #[.int .u64 0, .string ⟨#[]⟩, .slice none 0 0, .int .i64 0, .int .i64 0] 66)).alloc (.cells #[.int .u64 0, .string ⟨#[]⟩, .slice none 0 0, .int .i64 0, .int .i64 0] 66)) := (((Eff.refl _ _).alloc _).alloc _).alloc _
  have h1 := heap_alloc_new (w.alloc o) (.cells #[.int .u64 0, .string ⟨#[]⟩, .slice none 0 0, .int .i64 0, .int .i64 0] 66)
  have h2 := heap_alloc_new ((w.alloc o).alloc (.cells #[.int .u64 0, .string ⟨#[]⟩, .slice none 0 0, .int .i64 0, .int .i64 0] 66)) (.cells #[.int .u64 0, .string ⟨#[]⟩, .slice none 0 0, .int .i64 0, .int .i64 0] 66)
  refine ⟨by simp, by simpa using h2, ?_, hr.eff e (fun _ _ f => f), hb.eff e (fun _ _ f => f), e.mono (fun _ f _ => f.elim), Fresh.refl _ _, Fresh.refl _ _, lt_of_heap hr.blk, lt_of_heap hb.blk⟩
  rw [Below.heap_alloc _ _ _ (by simp)]; simpa using h1
/-- Behind a call over the Reader. -/
theorem AskC.call (h : AskC w base p pk v bs vb vi wx next c0 c1 c2 vb1 vi1 lb1 li1) (e : Eff (· = p) wx w') {next' : Nat} (hr : Rdr w' base p v bs next') : AskC w base p pk v bs vb vi w' next' c0 c1 c2 vb1 vi1 lb1 li1 :=
  ⟨Nat.le_trans h.sz e.size, (e.block _ (lt_of_heap h.lk) (by have := h.hp; omega)).trans h.lk, (e.block _ (lt_of_heap h.rs) (by have := h.hp; omega)).trans h.rs, hr,
    h.bk.eff e (fun k hk he => by subst he; exact h.bk.off h.rd.blk (by decide) (by decide) (by decide) hk), h.ef.trans e (fun i hi _ => .inl hi), h.fb, h.fi, h.hp, h.hk⟩
theorem AskC.under (h : AskC w base p pk v bs vb vi wx next c0 c1 c2 vb1 vi1 lb1 li1) (e : Below wx.heap.size wx w') : AskC w base p pk v bs vb vi w' next c0 c1 c2 vb1 vi1 lb1 li1 :=
  ⟨Nat.le_trans h.sz e.size, (e.block _ (lt_of_heap h.lk)).trans h.lk, (e.block _ (lt_of_heap h.rs)).trans h.rs, h.rd.eff (Eff.of_below e (fun _ => False)) (fun _ _ f => f), h.bk.eff (Eff.of_below e (fun _ => False)) (fun _ _ f => f), h.ef.trans (Eff.of_below e (fun _ => False)) (fun _ f _ => f.elim), h.fb, h.fi, h.hp, h.hk⟩
theorem AskC.setE (h : AskC w base p pk v bs vb vi wx next c0 c1 c2 vb1 vi1 lb1 li1) (i : Nat) (u : Value) : Eff (fun k => k = w.heap.size + 1 + 1) wx (wx.setCell ⟨w.heap.size + 1 + 1, i, none⟩ u) := (Eff.refl (fun k => k = w.heap.size + 1 + 1) wx).setCell (p := ⟨w.heap.size + 1 + 1, i, none⟩) (fun _ => rfl) u
theorem AskC.setU (h : AskC w base p pk v bs vb vi wx next c0 c1 c2 vb1 vi1 lb1 li1) (e : Eff (fun k => k = w.heap.size + 1 + 1) wx w') {d0 d1 d2 : Value} (hl : w'.heap[w.heap.size + 1 + 1]? = some (.cells #[d0, d1, d2, .int .i64 0, .int .i64 0] 66 (0, 0))) : AskC w base p pk v bs vb vi w' next d0 d1 d2 vb1 vi1 lb1 li1 :=
  ⟨Nat.le_trans h.sz e.size, hl, (e.block _ (lt_of_heap h.rs) (by omega)).trans h.rs, h.rd.eff e (fun k hk he => by
    rcases hk with rfl | hk
    · have := h.hp; omega
    · subst he; exact h.rd.own.ne_type h.lk (by decide) hk), h.bk.eff e (fun k hk he => by subst he; exact h.bk.off h.lk (by decide) (by decide) (by decide) hk), h.ef.trans e (fun i hi hlt => by omega), h.fb, h.fi, h.hp, h.hk⟩
theorem AskC.set0 (h : AskC w base p pk v bs vb vi wx next c0 c1 c2 vb1 vi1 lb1 li1) (u : Value) : AskC w base p pk v bs vb vi (wx.setCell ⟨w.heap.size + 1 + 1, 0, none⟩ u) next u c1 c2 vb1 vi1 lb1 li1 := h.setU (h.setE 0 u) (blk_set h.lk 0 u)
theorem AskC.set1 (h : AskC w base p pk v bs vb vi wx next c0 c1 c2 vb1 vi1 lb1 li1) (u : Value) : AskC w base p pk v bs vb vi (wx.setCell ⟨w.heap.size + 1 + 1, 1, none⟩ u) next c0 u c2 vb1 vi1 lb1 li1 := h.setU (h.setE 1 u) (blk_set h.lk 1 u)
theorem AskC.set2 (h : AskC w base p pk v bs vb vi wx next c0 c1 c2 vb1 vi1 lb1 li1) (u : Value) : AskC w base p pk v bs vb vi (wx.setCell ⟨w.heap.size + 1 + 1, 2, none⟩ u) next c0 c1 u vb1 vi1 lb1 li1 := h.setU (h.setE 2 u) (blk_set h.lk 2 u)
theorem AskC.low (h : AskC w base p pk v bs vb vi wx next c0 c1 c2 vb1 vi1 lb1 li1) : ∀ k, BkB pk vb1 vi1 k → k < w.heap.size → BkB pk vb vi k := by
  rintro k (rfl | hk | hk) hlt
  · exact .inl rfl
  · rcases h.fb k hk with h1 | h1
    · exact .inr (.inl h1)
    · omega
  · rcases h.fi k hk with h1 | h1
    · exact .inr (.inr h1)
    · omega
theorem AskC.off (h : AskC w base p pk v bs vb vi wx next c0 c1 c2 vb1 vi1 lb1 li1) : (¬ BkB pk vb1 vi1 (w.heap.size + 1 + 1)) ∧ (¬ BkB pk vb1 vi1 (w.heap.size + 1)) ∧ ∀ k, RdrB p v k → ¬ BkB pk vb1 vi1 k :=
  ⟨h.bk.off h.lk (by decide) (by decide) (by decide), h.bk.off h.rs (by decide) (by decide) (by decide), fun k hk => by
    rcases hk with rfl | hk
    · exact h.bk.off h.rd.blk (by decide) (by decide) (by decide)
    · exact h.bk.offOwn h.rd.own (by decide) (by decide) (by decide) k hk⟩
theorem AskC.book (h : AskC w base p pk v bs vb vi wx next c0 c1 c2 vb1 vi1 lb1 li1) (e : Eff (BkB pk vb1 vi1) wx w') {vb2 vi2 : Value} {lb2 li2 : List Value} (hk : BookX w' base pk vb2 vi2 lb2 li2) (f1 : Fresh wx.heap.size vb1 vb2) (f2 : Fresh wx.heap.size vi1 vi2) : AskC w base p pk v bs vb vi w' next c0 c1 c2 vb2 vi2 lb2 li2 :=
  ⟨Nat.le_trans h.sz e.size, (e.block _ (lt_of_heap h.lk) h.off.1).trans h.lk, (e.block _ (lt_of_heap h.rs) h.off.2.1).trans h.rs, h.rd.eff e h.off.2.2, hk, h.ef.trans e (fun i hi hlt => .inr (h.low i hi hlt)), h.fb.trans f1 (by have := h.sz; omega), h.fi.trans f2 (by have := h.sz; omega), h.hp, h.hk⟩
/-- Is all that was turned at base or above? -/
theorem AskC.bel (h : AskC w base p pk v bs vb vi wx next c0 c1 c2 vb1 vi1 lb1 li1) {lb li : List Value} (hb : BookX w base pk vb vi lb li) (hz : base ≤ w.heap.size) : Below base w wx := h.ef.below (fun k hk => by
  rcases hk with rfl | hk
  · exact h.rd.hp
  · exact (hb.ge k hk).1) hz
/-- What holds of the lists that were added. -/
def AddB (w wx : World) (t : TypeId) (N : Nat) (lb lb1 : List Value) : Prop := lb1 = lb ∨ ∃ (x : Value) (xs : List Value), lb1 = lb ++ [x] ∧ Own wx w.heap.size t x xs ∧ xs.length ≤ N
end
end Go.Proofs.YtmmflhippbegaaaDoor
