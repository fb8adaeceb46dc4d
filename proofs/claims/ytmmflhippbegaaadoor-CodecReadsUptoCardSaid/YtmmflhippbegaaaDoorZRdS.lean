/- The state of the law CodecReads; sameLook; a Reader's Done. -/
import Derived.Test.YtmmflhippbegaaaDoorZAskB
import Derived.Test.YtmmflhippbegaaaDoorZSame
namespace Go.Proofs.YtmmflhippbegaaaDoor
set_option linter.unusedVariables false
open Go.ChangeShapes Go.WideShapes Go.ChangeAt Go.RowKit

def updR {α : Type} (f : Bool → α) (b : Bool) (a : α) : Bool → α := fun c => if c = b then a else f c
theorem updR_same {α : Type} (f : Bool → α) (b : Bool) (a : α) : updR f b a b = a := by simp [updR]
theorem updR_ne {α : Type} (f : Bool → α) {b c : Bool} (a : α) (h : c ≠ b) : updR f b a c = f c := by simp [updR, h]

set_option maxRecDepth 100000 in
theorem slook_any (w : World) (r : Lk) (a a' : Option Addr) (n n' c c' : Nat) (h : Rd w (.slice a n c) (intL r.l)) (h' : Rd w (.slice a' n' c') (intL r.l)) (hl : (r.l.length : Int) ≤ 9223372036854775807) :
    Calls Tryd.prog 34 #[.agg #[.int .u64 r.u, .string (strOf r.s), .slice a n c, .int .i64 r.next, .int .i64 r.e], .agg #[.int .u64 r.u, .string (strOf r.s), .slice a' n' c', .int .i64 r.next, .int .i64 r.e]] w fun e w' => e = .returned (.bool true) ∧ Below w.heap.size w w' := by
  obtain ⟨u, s, l, nx, E⟩ := r
  have hb1 : Below w.heap.size w ((w.alloc (.cells #[.int .u64 u, .string (strOf s), .slice a n c, .int .i64 nx, .int .i64 E] 66)).alloc (.cells #[.int .u64 u, .string (strOf s), .slice a' n' c', .int .i64 nx, .int .i64 E] 66)) := ((Below.refl _ _).alloc (Nat.le_refl _) _).alloc (by simp) _
  have C1 := same_any _ a a' n n' c c' l l (h.below hb1 (Nat.le_refl _)) (h'.below hb1 (Nat.le_refl _)) hl hl
  rw [decide_eq_true (rfl : l = l)] at C1
  have HB := Lib.hid hb1
  clear h h' hb1
  go_enter Tryd.func34, Tryd.ntmps34
  go_wp2_with fail
  refine C1.mono ?_
  rintro e w' ⟨rfl, d, rfl⟩
  clear C1
  go_wp2
  go_ret
  exact ⟨rfl, below_drewN HB.out _⟩
set_option maxRecDepth 100000 in
theorem rdone_err (w : World) (base p : Nat) (v : Value) (bs : List UInt8) (k : Nat) (h : Rdr w base p v bs k) (hk : k < bs.length) (EA : Nat → Addr) (hT : w.cell? ⟨3, 0, none⟩ = some (errV EA 5)) :
    Calls Tryd.prog 30 #[.pointer (some ⟨p, 0, none⟩)] w fun e w' => e = .returned (errV EA 5) ∧ ∃ d, w' = w.drewN d := by
  have hc := h.c0
  have hd := h.c1
  have hs := h.sm
  go_enter Tryd.func30, Tryd.ntmps30
  go_wp2
  go_quiet (fail)
  go_wp2
  go_ret
  exact ⟨rfl, _, rfl⟩

/-- Two Readers, their row, the bytes they are over, the places, a book of what was handed out. -/
structure RS (w : World) (B H0 pr pk pd pa : Nat) (p : Bool → Nat) (v x : Bool → Value) (bs : Bool → List UInt8) (k ka : Bool → Nat) (vb vi : Value) (lb li : List Value) : Prop where
  rd : ∀ b, Rdr w B (p b) (v b) (bs b) (k b)
  pp : p false ≠ p true
  rr : w.heap[pr]? = some (.cells #[.pointer (some ⟨p false, 0, none⟩), .pointer (some ⟨p true, 0, none⟩)] 54 (0, 0))
  dd : w.heap[pd]? = some (.cells #[x false, x true] 37 (0, 0))
  da : ∀ b, Own w B 5 (x b) (bytesV (bs b))
  aa : w.heap[pa]? = some (.cells #[.int .i64 (ka false), .int .i64 (ka true)] 3 (0, 0))
  ap : B ≤ pa
  bk : BookX w B pk vb vi lb li
  rb : ∃ C, Rec w 5 lb C ∧ ∀ q, (C q).length ≤ 1000000000
  ri : ∃ C, Rec w 3 li C ∧ ∀ q, (C q).length ≤ 1000000000
  hb : ∀ q, BlocksOf lb q → H0 ≤ q
  hi : ∀ q, BlocksOf li q → H0 ≤ q
  lv : ∀ b q, (v b).ownBlock = some q → q < H0
  lx : ∀ b q, (x b).ownBlock = some q → q < H0
  la : pa < H0
  n1 : vb.ownBlock ≠ some pd
  ph : H0 ≤ w.heap.size
/-- The same, when the book is done with. -/
structure RE (w : World) (B pr pd pa : Nat) (p : Bool → Nat) (v x : Bool → Value) (bs : Bool → List UInt8) (k ka : Bool → Nat) : Prop where
  rd : ∀ b, Rdr w B (p b) (v b) (bs b) (k b)
  pp : p false ≠ p true
  rr : w.heap[pr]? = some (.cells #[.pointer (some ⟨p false, 0, none⟩), .pointer (some ⟨p true, 0, none⟩)] 54 (0, 0))
  dd : w.heap[pd]? = some (.cells #[x false, x true] 37 (0, 0))
  da : ∀ b, Own w B 5 (x b) (bytesV (bs b))
  aa : w.heap[pa]? = some (.cells #[.int .i64 (ka false), .int .i64 (ka true)] 3 (0, 0))
section
variable {w w' : World} {B H0 pr pk pd pa : Nat} {p : Bool → Nat} {v x : Bool → Value} {bs : Bool → List UInt8} {k ka : Bool → Nat} {vb vi : Value} {lb li : List Value}
theorem Rec.snoc1 {t : TypeId} {ls : List Value} {v : Value} {xs : List Value} (h : ∃ C, Rec w t ls C ∧ ∀ q, (C q).length ≤ 1000000000) {H : Nat} (ho : Own w H t v xs) (hlt : ∀ q, BlocksOf ls q → q < H) (hx : xs.length ≤ 1000000000) : ∃ C, Rec w t (ls ++ [v]) C ∧ ∀ q, (C q).length ≤ 1000000000 := by
  obtain ⟨C, h1, h2⟩ := h
  refine ⟨fun q => if q < ls.length then C q else xs, h1.snoc ho hlt (fun q hq => by simp [hq]) (by simp), fun q => ?_⟩
  show (if q < ls.length then C q else xs).length ≤ _
  split
  · exact h2 q
  · exact hx
theorem RS.under (h : RS w B H0 pr pk pd pa p v x bs k ka vb vi lb li) (e : Below w.heap.size w w') : RS w' B H0 pr pk pd pa p v x bs k ka vb vi lb li := by
  have e2 : Eff (fun _ => False) w w' := Eff.of_below e _
  exact ⟨fun b => (h.rd b).eff e2 (fun _ _ f => f), h.pp, (e.block _ (lt_of_heap h.rr)).trans h.rr, (e.block _ (lt_of_heap h.dd)).trans h.dd, fun b => (h.da b).eff e2 (fun _ _ f => f), (e.block _ (lt_of_heap h.aa)).trans h.aa, h.ap, h.bk.eff e2 (fun _ _ f => f),
    by obtain ⟨C, h1, h2⟩ := h.rb; exact ⟨C, h1.eff e2 (fun _ _ f => f), h2⟩, by obtain ⟨C, h1, h2⟩ := h.ri; exact ⟨C, h1.eff e2 (fun _ _ f => f), h2⟩, h.hb, h.hi, h.lv, h.lx, h.la, h.n1, Nat.le_trans h.ph e.size⟩
theorem RS.drewN (h : RS w B H0 pr pk pd pa p v x bs k ka vb vi lb li) (d : Nat) : RS (w.drewN d) B H0 pr pk pd pa p v x bs k ka vb vi lb li := h.under (below_drewN (Below.refl _ _) d)
theorem blk_ne {g g' : Nat} {cs cs' : Array Value} {t t' : TypeId} {fr fr' : Nat × Nat} (h : w.heap[g]? = some (.cells cs t fr)) (h' : w.heap[g']? = some (.cells cs' t' fr')) (ht : t ≠ t') : g ≠ g' := by
  rintro rfl
  rw [h] at h'; injection h' with h'; injection h' with _ h'; exact ht h'
/-- Behind a call over a Reader. -/
theorem RS.asked (h : RS w B H0 pr pk pd pa p v x bs k ka vb vi lb li) {b : Bool} {next : Nat} (hr : Rdr w' B (p b) (v b) (bs b) next) {vb' vi' : Value} {lb' li' : List Value} (hk : BookX w' B pk vb' vi' lb' li') (e : Eff (fun i => i = p b ∨ BkB pk vb vi i) w w') (fb : Fresh w.heap.size vb vb')
    {N M : Nat} (hN : N ≤ 1000000000) (hM : M ≤ 1000000000) (ab : AddB w w' 5 N lb lb') (ai : AddB w w' 3 M li li') : RS w' B H0 pr pk pd pa p v x bs (updR k b next) ka vb' vi' lb' li' := by
  have tF : ∀ {g : Nat} {cs : Array Value} {t : TypeId} {fr : Nat × Nat}, w.heap[g]? = some (.cells cs t fr) → t ≠ 62 → t ≠ 43 → 37 ≠ t → 23 ≠ t → ¬ (g = p b ∨ BkB pk vb vi g) := by
    rintro g cs t fr hg h1 h2 h3 h4 (hf | hf)
    · exact blk_ne hg (h.rd b).blk h1 hf
    · exact h.bk.off hg h2 h3 h4 hf
  have tO : ∀ {z : Value} {xs : List Value} {t : TypeId} {b0 : Nat}, Own w b0 t z xs → t ≠ 62 → t ≠ 43 → 37 ≠ t → 23 ≠ t → ∀ q, z.ownBlock = some q → ¬ (q = p b ∨ BkB pk vb vi q) := by
    rintro z xs t b0 ho h1 h2 h3 h4 q hq (rfl | hf)
    · exact ho.ne_type (h.rd b).blk h1 hq
    · exact h.bk.offOwn ho h2 h3 h4 q hq hf
  have tR : ∀ {t : TypeId} {ls : List Value} {C : Nat → List Value}, Rec w t ls C → t ≠ 62 → t ≠ 43 → 37 ≠ t → 23 ≠ t → Rec w' t ls C := fun hrc h1 h2 h3 h4 => hrc.eff e (fun q hq => by
    obtain ⟨cs, hg⟩ := hrc.blk hq; exact tF hg h1 h2 h3 h4)
  have bS : ∀ {ls : List Value} {z : Value} {q : Nat}, BlocksOf (ls ++ [z]) q → BlocksOf ls q ∨ z.ownBlock = some q := by
    rintro ls z q ⟨i, y, hy, hq⟩
    rcases Nat.lt_or_ge i ls.length with hl | hl
    · rw [List.getElem?_append_left hl] at hy; exact .inl ⟨i, y, hy, hq⟩
    · rw [List.getElem?_append_right hl] at hy
      rcases Nat.eq_zero_or_pos (i - ls.length) with h0 | h0
      · rw [h0] at hy; simp at hy; subst hy; exact .inr hq
      · rw [List.getElem?_eq_none (by simp; omega)] at hy; cases hy
  refine ⟨fun c => ?_, h.pp, (e.block _ (lt_of_heap h.rr) (tF h.rr (by decide) (by decide) (by decide) (by decide))).trans h.rr, (e.block _ (lt_of_heap h.dd) ?_).trans h.dd, fun c => (h.da c).eff e (tO (h.da c) (by decide) (by decide) (by decide) (by decide)), (e.block _ (lt_of_heap h.aa) (tF h.aa (by decide) (by decide) (by decide) (by decide))).trans h.aa, h.ap, hk, ?_, ?_, ?_, ?_, h.lv, h.lx, h.la, ?_, Nat.le_trans h.ph e.size⟩
  · by_cases hc : c = b
    · subst hc; rw [updR_same]; exact hr
    · rw [updR_ne _ _ hc]
      refine (h.rd c).eff e (fun q hq hf => ?_)
      rcases hq with rfl | hq
      · rcases hf with hf | hf
        · cases b <;> cases c
          · exact hc rfl
          · exact h.pp hf.symm
          · exact h.pp hf
          · exact hc rfl
        · exact h.bk.off (h.rd c).blk (by decide) (by decide) (by decide) hf
      · exact tO (h.rd c).own (by decide) (by decide) (by decide) (by decide) q hq hf
  · rintro (hf | hf | hf | hf)
    · exact blk_ne h.dd (h.rd b).blk (by decide) hf
    · exact blk_ne h.dd h.bk.blk (by decide) hf
    · exact h.n1 hf
    · exact h.bk.oi.ne_type h.dd (by decide) hf
  · obtain ⟨C, h1, h2⟩ := h.rb
    have h3 := tR h1 (by decide) (by decide) (by decide) (by decide)
    rcases ab with rfl | ⟨z, xs, rfl, ho, hx⟩
    · exact ⟨C, h3, h2⟩
    · exact Rec.snoc1 ⟨C, h3, h2⟩ ho (fun q hq => h1.lt q hq) (by omega)
  · obtain ⟨C, h1, h2⟩ := h.ri
    have h3 := tR h1 (by decide) (by decide) (by decide) (by decide)
    rcases ai with rfl | ⟨z, xs, rfl, ho, hx⟩
    · exact ⟨C, h3, h2⟩
    · exact Rec.snoc1 ⟨C, h3, h2⟩ ho (fun q hq => h1.lt q hq) (by omega)
  · rcases ab with rfl | ⟨z, xs, rfl, ho, hx⟩
    · exact h.hb
    · intro q hq
      rcases bS hq with hq | hq
      · exact h.hb q hq
      · exact Nat.le_trans h.ph (ho.lt q hq).1
  · rcases ai with rfl | ⟨z, xs, rfl, ho, hx⟩
    · exact h.hi
    · intro q hq
      rcases bS hq with hq | hq
      · exact h.hi q hq
      · exact Nat.le_trans h.ph (ho.lt q hq).1
  · intro hf
    rcases fb pd hf with h1 | h1
    · exact h.n1 h1
    · have := lt_of_heap h.dd; omega
/-- The place is put into the row. -/
theorem RS.setA (h : RS w B H0 pr pk pd pa p v x bs k ka vb vi lb li) (b : Bool) (m : Nat) : RS (w.setCell ⟨pa, b.toNat, none⟩ (.int .i64 m)) B H0 pr pk pd pa p v x bs k (updR ka b m) vb vi lb li := by
  have e : Eff (fun q => q = pa) w (w.setCell ⟨pa, b.toNat, none⟩ (.int .i64 m)) := (Eff.refl (fun q => q = pa) w).setCell (p := ⟨pa, b.toNat, none⟩) (fun _ => rfl) _
  refine ⟨fun c => (h.rd c).eff e (fun q hq hf => ?_), h.pp, (e.block _ (lt_of_heap h.rr) (blk_ne h.rr h.aa (by decide))).trans h.rr, (e.block _ (lt_of_heap h.dd) (blk_ne h.dd h.aa (by decide))).trans h.dd, fun c => (h.da c).eff e (fun q hq hf => by subst hf; exact (h.da c).ne_type h.aa (by decide) hq), ?_, h.ap, h.bk.eff e (fun q hq hf => by subst hf; exact h.bk.off h.aa (by decide) (by decide) (by decide) hq), ?_, ?_, h.hb, h.hi, h.lv, h.lx, h.la, h.n1, Nat.le_trans h.ph e.size⟩
  · subst hf
    rcases hq with hq | hq
    · exact blk_ne h.aa (h.rd c).blk (by decide) hq
    · exact (h.rd c).own.ne_type h.aa (by decide) hq
  · rw [blk_set h.aa]
    cases b <;> rfl
  · obtain ⟨C, h1, h2⟩ := h.rb
    exact ⟨C, h1.eff e (fun q hq hf => by have := h.hb q hq; have := h.la; omega), h2⟩
  · obtain ⟨C, h1, h2⟩ := h.ri
    exact ⟨C, h1.eff e (fun q hq hf => by have := h.hi q hq; have := h.la; omega), h2⟩
/-- Behind the look at what was handed out. -/
theorem RS.done (h : RS w B H0 pr pk pd pa p v x bs k ka vb vi lb li) (e : Eff (fun q => BlocksOf lb q ∨ BlocksOf li q) w w') : RE w' B pr pd pa p v x bs k ka := by
  obtain ⟨C, h1, _⟩ := h.rb
  obtain ⟨D, h2, _⟩ := h.ri
  have tF : ∀ {g : Nat} {cs : Array Value} {t : TypeId} {fr : Nat × Nat}, w.heap[g]? = some (.cells cs t fr) → t ≠ 5 → t ≠ 3 → ¬ (BlocksOf lb g ∨ BlocksOf li g) := by
    rintro g cs t fr hg n1 n2 (hf | hf)
    · obtain ⟨cs', hg'⟩ := h1.blk hf; exact blk_ne hg hg' n1 rfl
    · obtain ⟨cs', hg'⟩ := h2.blk hf; exact blk_ne hg hg' n2 rfl
  have lo : ∀ {q : Nat}, q < H0 → ¬ (BlocksOf lb q ∨ BlocksOf li q) := by
    rintro q hq (hf | hf)
    · have := h.hb q hf; omega
    · have := h.hi q hf; omega
  exact ⟨fun c => (h.rd c).eff e (fun q hq hf => by
    rcases hq with rfl | hq
    · exact tF (h.rd c).blk (by decide) (by decide) hf
    · exact lo (h.lv c q hq) hf), h.pp, (e.block _ (lt_of_heap h.rr) (tF h.rr (by decide) (by decide))).trans h.rr, (e.block _ (lt_of_heap h.dd) (tF h.dd (by decide) (by decide))).trans h.dd, fun c => (h.da c).eff e (fun q hq hf => lo (h.lx c q hq) hf), (e.block _ (lt_of_heap h.aa) (lo h.la)).trans h.aa⟩
theorem RE.drewN (h : RE w B pr pd pa p v x bs k ka) (d : Nat) : RE (w.drewN d) B pr pd pa p v x bs k ka := ⟨fun b => (h.rd b).drewN d, h.pp, h.rr, h.dd, fun b => (h.da b).drewN d, h.aa⟩
theorem RE.read (h : RE w B pr pd pa p v x bs k ka) {b : Bool} {next : Nat} (hr : Rdr w' B (p b) (v b) (bs b) next) (e : Eff (· = p b) w w') : RE w' B pr pd pa p v x bs (updR k b next) ka := by
  refine ⟨fun c => ?_, h.pp, (e.block _ (lt_of_heap h.rr) (blk_ne h.rr (h.rd b).blk (by decide))).trans h.rr, (e.block _ (lt_of_heap h.dd) (blk_ne h.dd (h.rd b).blk (by decide))).trans h.dd, fun c => (h.da c).eff e (fun q hq hf => by subst hf; exact (h.da c).ne_type (h.rd b).blk (by decide) hq), (e.block _ (lt_of_heap h.aa) (blk_ne h.aa (h.rd b).blk (by decide))).trans h.aa⟩
  by_cases hc : c = b
  · subst hc; rw [updR_same]; exact hr
  · rw [updR_ne _ _ hc]
    refine (h.rd c).eff e (fun q hq hf => ?_)
    subst hf
    rcases hq with hq | hq
    · cases b <;> cases c
      · exact hc rfl
      · exact h.pp hq
      · exact h.pp hq.symm
      · exact hc rfl
    · exact (h.rd c).own.ne_type (h.rd b).blk (by decide) hq
end
end Go.Proofs.YtmmflhippbegaaaDoor
