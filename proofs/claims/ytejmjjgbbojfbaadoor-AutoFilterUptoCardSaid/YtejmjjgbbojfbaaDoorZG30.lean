/- Merged: LayP, LayS. -/
import Derived.Test.YtejmjjgbbojfbaaDoorZG29
import Derived.Test.YtejmjjgbbojfbaaDoorZG11
import Derived.Test.YtejmjjgbbojfbaaDoorZG26
import Derived.Test.YtejmjjgbbojfbaaDoorZG12
/- auto, plain: the descriptions of a machine in the order in which they are met, and the graph of them. -/
namespace Go.Proofs.YtejmjjgbbojfbaaDoor
set_option linter.unusedVariables false

theorem beq_bytes (a b : ByteArray) : (a == b) = (a.data == b.data) := by cases a; cases b; rfl
instance : LawfulBEq ByteArray where
  eq_of_beq {a b} h := by
    rw [beq_bytes] at h
    cases a with | mk x => cases b with | mk y => exact congrArg ByteArray.mk (eq_of_beq h)
  rfl {a} := by rw [beq_bytes]; exact beq_self_eq_true a.data
/-- A text by number in a list of descriptions; beyond it the dead one. -/
def dsAt (l : List ByteArray) (s : Nat) : ByteArray := l.getD s ⟨#[]⟩
/-- What is met at place p. -/
def lyX (M : Mach) (l : List ByteArray) (p : Nat) : ByteArray := stepM M (dsAt l (p / 256)) (UInt8.ofNat (p % 256))
def lyStep (M : Mach) (l : List ByteArray) (p : Nat) : List ByteArray := if lyX M l p ∈ l then l else l ++ [lyX M l p]
/-- The descriptions met ahead of place p. -/
def lys (M : Mach) : Nat → List ByteArray
  | 0 => [M.start]
  | p + 1 => lyStep M (lys M p) p
theorem lys_prefix (M : Mach) (p : Nat) : lys M p <+: lys M (p + 1) := by
  show _ <+: lyStep M (lys M p) p
  unfold lyStep
  split
  · exact List.prefix_refl _
  · exact List.prefix_append _ _
theorem lys_mono (M : Mach) {p q : Nat} (h : p ≤ q) : lys M p <+: lys M q := by
  induction h with
  | refl => exact List.prefix_refl _
  | step _ ih => exact ih.trans (lys_prefix M _)
theorem lys_pos (M : Mach) (p : Nat) : 0 < (lys M p).length := Nat.lt_of_lt_of_le (show 0 < (lys M 0).length by simp [lys]) (lys_mono M (Nat.zero_le p)).length_le
theorem lys_nodup (M : Mach) : ∀ p, (lys M p).Nodup
  | 0 => by simp [lys]
  | p + 1 => by
    show (lyStep M (lys M p) p).Nodup
    unfold lyStep
    split
    · exact lys_nodup M p
    · next h => exact List.nodup_append.2 ⟨lys_nodup M p, by simp, fun a ha b hb e => by
        rw [List.mem_singleton.1 hb] at e
        exact h (e ▸ ha)⟩
theorem dsAt_prefix {l l2 : List ByteArray} (h : l <+: l2) {i : Nat} (hi : i < l.length) : dsAt l2 i = dsAt l i := by
  obtain ⟨r, rfl⟩ := h
  simp [dsAt, List.getD, List.getElem?_append_left hi]
theorem dsAt_get {l : List ByteArray} {i : Nat} (hi : i < l.length) : dsAt l i = l[i] := by simp [dsAt, List.getD, hi]
/-- The loop over the descriptions: it goes on while there is one more, ends where there is none. -/
structure LyW (M : Mach) (N : Nat) : Prop where
  go : ∀ s, s < N → s < (lys M (256 * s)).length
  fin : (lys M (256 * N)).length = N
/-- The number of what is met at a place. -/
def lyN (M : Mach) (p : Nat) : Nat := (lys M (p + 1)).idxOf (lyX M (lys M p) p)
theorem lyX_mem (M : Mach) (p : Nat) : lyX M (lys M p) p ∈ lys M (p + 1) := by
  show _ ∈ lyStep M (lys M p) p
  unfold lyStep
  split
  · next h => exact h
  · simp
/-- The graph, of n states. -/
def layT (M : Mach) (n : Nat) : Tab := ⟨n, fun s => decide (dsAt (lys M (256 * s)) s ≠ ⟨#[]⟩) && M.acc (dsAt (lys M (256 * s)) s), fun s c => lyN M (256 * s + c)⟩
theorem lyW_lay {M : Mach} {N : Nat} (h : LyW M N) : Lay M (layT M N) (fun s => dsAt (lys M (256 * s)) s) := by
  have hds : ∀ s q, s < N → 256 * s ≤ q → dsAt (lys M q) s = dsAt (lys M (256 * s)) s := fun s q hs hq => dsAt_prefix (lys_mono M hq) (h.go s hs)
  have hN : 0 < N := by rw [← h.fin]; exact lys_pos M _
  refine ⟨hN, rfl, fun s _ => rfl, fun s c hs hc => ?_⟩
  have hs : s < N := hs
  have hm := lyX_mem M (256 * s + c)
  have hx : lyX M (lys M (256 * s + c)) (256 * s + c) = stepM M (dsAt (lys M (256 * s)) s) (UInt8.ofNat c) := by
    unfold lyX
    rw [show (256 * s + c) / 256 = s by omega, show (256 * s + c) % 256 = c by omega, hds s _ hs (by omega)]
  have hpre := lys_mono M (show 256 * s + c + 1 ≤ 256 * N by omega)
  have hlt : lyN M (256 * s + c) < (lys M (256 * s + c + 1)).length := List.idxOf_lt_length_of_mem hm
  have hltN : lyN M (256 * s + c) < N := by have := hpre.length_le; rw [h.fin] at this; omega
  refine ⟨hltN, ?_⟩
  show dsAt (lys M (256 * lyN M (256 * s + c))) (lyN M (256 * s + c)) = _
  rw [← hx, ← hds _ (256 * N) hltN (by omega), dsAt_prefix hpre hlt, dsAt_get hlt]
  exact List.getElem_idxOf hlt
/-- Laying out stops: what is met at place p is one too many. -/
structure LyNo (M : Mach) (most p : Nat) : Prop where
  go : ∀ s, s ≤ p / 256 → s < (lys M (256 * s)).length
  len : (lys M p).length = most
  new : lyX M (lys M p) p ∉ lys M p
/-- If every list of descriptions that are met has at most so many, laying out does not stop. -/
theorem lyNo_len {M : Mach} {most p : Nat} (h : LyNo M most p) : (lys M (p + 1)).length = most + 1 := by
  show (lyStep M (lys M p) p).length = _
  unfold lyStep
  rw [if_neg h.new, List.length_append, h.len]; rfl
/-- All that is met comes of some text. -/
theorem lys_run (M : Mach) : ∀ p, (∀ q, q < p → q / 256 < (lys M q).length) → ∀ x ∈ lys M p, ∃ s : List UInt8, x = runM M s ∧ s.length ≤ p
  | 0, _, x, hx => ⟨[], by rw [lys, List.mem_singleton] at hx; rw [hx]; rfl, Nat.le_refl _⟩
  | p + 1, hp, x, hx => by
    have hx : x ∈ lyStep M (lys M p) p := hx
    have ih := lys_run M p (fun q hq => hp q (by omega))
    unfold lyStep at hx
    split at hx
    · obtain ⟨s, h1, h2⟩ := ih x hx
      exact ⟨s, h1, by omega⟩
    · rcases List.mem_append.1 hx with hx | hx
      · obtain ⟨s, h1, h2⟩ := ih x hx
        exact ⟨s, h1, by omega⟩
      · rw [List.mem_singleton.1 hx]
        have hl := hp p (by omega)
        obtain ⟨s, h1, h2⟩ := ih (dsAt (lys M p) (p / 256)) (by rw [dsAt_get hl]; exact List.getElem_mem _)
        exact ⟨s ++ [UInt8.ofNat (p % 256)], by rw [runM_snoc, ← h1]; rfl, by simp; omega⟩
end Go.Proofs.YtejmjjgbbojfbaaDoor

/- auto: the state of lay. -/
namespace Go.Proofs.YtejmjjgbbojfbaaDoor
set_option linter.unusedVariables false
open Go.ChangeShapes Go.WideShapes Go.ChangeAt Go.RowKit

structure LyS (w wr : World) (M : Mach) (I : ByteArray → Prop) (g mb : Nat) (nv av lv : Value) (n : Nat) (L : List ByteArray) : Prop where
  gr : GraphAt wr w.heap.size g nv av (layT M n)
  mp : StrMap wr mb L.length 65536 (idxF L)
  hm : w.heap.size ≤ mb
  all : Own wr w.heap.size 9 lv (L.map Value.string)
  inv : ∀ x ∈ L, x ≠ ⟨#[]⟩ → I x
  bl : Below w.heap.size w wr
section
variable {w wr w2 : World} {M : Mach} {I : ByteArray → Prop} {g mb n : Nat} {nv av lv : Value} {L : List ByteArray}
theorem LyS.below (h : LyS w wr M I g mb nv av lv n L) (hb : Below wr.heap.size wr w2) : LyS w w2 M I g mb nv av lv n L :=
  ⟨h.gr.below hb (Nat.le_refl _), h.mp.below hb (Nat.le_refl _), h.hm, h.all.below hb (Nat.le_refl _), h.inv, h.bl.trans (hb.mono h.bl.size)⟩
theorem LyS.alloc (h : LyS w wr M I g mb nv av lv n L) (o : Obj) : LyS w (wr.alloc o) M I g mb nv av lv n L := h.below ((Below.refl _ _).alloc (Nat.le_refl _) o)
/-- How many rows the graph at g has. -/
def gLen (w : World) (g : Nat) : Nat := match w.cell? ⟨g, 0, none⟩ with
  | some (.slice _ n _) => n
  | _ => 0
theorem LyS.gl (h : LyS w wr M I g mb nv av lv n L) : gLen wr g = n := by
  obtain ⟨a, c, rfl, _⟩ := h.gr.at_
  have h0 : wr.cell? ⟨g, 0, none⟩ = some (.slice a (layT M n).n c) := blk_cell h.gr.blk 0
  unfold gLen
  rw [h0]
  rfl
/-- A description more: in the map, and in the list. -/
theorem LyS.put (h : LyS w wr M I g mb nv av lv n L) (x : ByteArray) (hx : x ∉ L) (hI : x ≠ ⟨#[]⟩ → I x) (hg : wr.grownBy w2 (some mb)) (hm : StrMap w2 mb (L.length + 1) 65536 (fun u => if u = x then some L.length else idxF L u)) :
    GraphAt w2 w.heap.size g nv av (layT M n) ∧ StrMap w2 mb (L ++ [x]).length 65536 (idxF (L ++ [x])) ∧ Own w2 w.heap.size 9 lv (L.map Value.string) ∧ Below w.heap.size w w2 := by
  have he := Eff.ofGrown hg
  refine ⟨h.gr.eff' he (fun e => h.mp.ne h.gr.blk (Option.some.inj e)) (fun k hk e => h.mp.ne_row h.gr.next (by rw [hk, e])) (fun k hk e => h.mp.ne_own h.gr.acc (by rw [hk, e])), ?_, h.all.eff he (fun k hk e => h.mp.ne_own h.all (by rw [hk, e])), ?_⟩
  · rw [← idxF_snoc hx, List.length_append]; exact hm
  · exact h.bl.grown hg h.bl.size (fun k hk => by rw [← Option.some.inj hk]; exact h.hm)
theorem LyS.app {w3 : World} {x : ByteArray} {lv2 : Value} (hG : GraphAt wr w.heap.size g nv av (layT M n)) (hm : StrMap wr mb (L ++ [x]).length 65536 (idxF (L ++ [x]))) (ho : Own wr w.heap.size 9 lv (L.map Value.string)) (hb : Below w.heap.size w wr) (hmb : w.heap.size ≤ mb)
    (hinv : ∀ x ∈ L, x ≠ ⟨#[]⟩ → I x) (hI : x ≠ ⟨#[]⟩ → I x) (hg : wr.grownBy w3 lv.ownBlock) (ho3 : Own w3 w.heap.size 9 lv2 (L.map Value.string ++ [.string x])) : LyS w w3 M I g mb nv av lv2 n (L ++ [x]) := by
  have he := Eff.ofGrown hg
  refine ⟨hG.eff' he (fun e => ho.ne_type hG.blk (by decide) e) (fun k hk e => ownsRow_types hG.next ho (by decide) e hk) (fun k hk e => own_types ho hG.acc (by decide) e hk), hm.eff he (fun e => hm.ne_own ho e), hmb, by rw [List.map_append]; exact ho3, fun y hy => ?_, hb.grown hg hb.size (fun k hk => (ho.lt k hk).1)⟩
  rcases List.mem_append.1 hy with hy | hy
  · exact hinv y hy
  · rw [List.mem_singleton.1 hy]; exact hI
end
/-- A block of the call's own written in one cell, of another type than all lists of the state. -/
theorem LyS.row {w wr : World} {M : Mach} {I : ByteArray → Prop} {g mb n : Nat} {nv av lv : Value} {L : List ByteArray} {rb : Nat} {cs : Array Value} (h : LyS w wr M I g mb nv av lv n L) (hr : wr.heap[rb]? = some (.cells cs 136 (0, 0))) (hrb : w.heap.size ≤ rb) (hnr : nv.ownBlock ≠ some rb) (i : Nat) (u : Value) :
    LyS w (wr.setCell ⟨rb, i, none⟩ u) M I g mb nv av lv n L := by
  have he : Eff (· = rb) wr (wr.setCell ⟨rb, i, none⟩ u) := (Eff.refl (· = rb) wr).setCell (p := ⟨rb, i, none⟩) (fun _ => rfl) u
  refine ⟨h.gr.eff' he (fun e => ?_) (fun k hk e => hnr (by rw [hk, e])) (fun k hk e => h.gr.acc.ne_type hr (by decide) (by rw [hk, e])), h.mp.eff he (fun e => h.mp.ne hr e), h.hm, h.all.eff he (fun k hk e => h.all.ne_type hr (by decide) (by rw [hk, e])), h.inv, ?_⟩
  · have h1 := h.gr.blk
    rw [e, hr] at h1
    injection h1 with h1
    injection h1 with _ h1
    exact absurd h1 (by decide)
  · exact h.bl.setCell (p := ⟨rb, i, none⟩) hrb u
/-- The state between the two lines: a row more, not yet its bool. -/
structure LyH (w wr : World) (M : Mach) (I : ByteArray → Prop) (g mb : Nat) (nv av lv : Value) (n : Nat) (L : List ByteArray) : Prop where
  blk : wr.heap[g]? = some (.cells #[nv, av] 134 (0, 0))
  hg : w.heap.size ≤ g
  next : wr.ownsRow w.heap.size 136 256 nv (n + 1) (flatN (layT M (n + 1)).nx (n + 1))
  acc : Own wr w.heap.size 4 av ((List.range n).map fun s => .bool ((layT M n).acc s))
  mp : StrMap wr mb L.length 65536 (idxF L)
  hm : w.heap.size ≤ mb
  all : Own wr w.heap.size 9 lv (L.map Value.string)
  inv : ∀ x ∈ L, x ≠ ⟨#[]⟩ → I x
  bl : Below w.heap.size w wr
section
variable {w wr w2 : World} {M : Mach} {I : ByteArray → Prop} {g mb n : Nat} {nv av lv : Value} {L : List ByteArray}
theorem LyH.below (h : LyH w wr M I g mb nv av lv n L) (hb : Below wr.heap.size wr w2) : LyH w w2 M I g mb nv av lv n L :=
  ⟨(hb.block g (lt_of_heap h.blk)).trans h.blk, h.hg, arr_eff h.next (F := fun k => wr.heap.size ≤ k) ⟨hb.os, hb.tape, hb.output, hb.size, fun k hk _ => hb.block k hk⟩ (fun k hk => by have := (World.ownsRow.lt h.next k hk).2; omega),
    h.acc.below hb (Nat.le_refl _), h.mp.below hb (Nat.le_refl _), h.hm, h.all.below hb (Nat.le_refl _), h.inv, h.bl.trans (hb.mono h.bl.size)⟩
theorem LyS.next {v2 : Value} (h : LyS w wr M I g mb nv av lv n L) (f : Nat → Nat) (hf : f = fun c => lyN M (256 * n + c)) (h2 : w2.ownsRow w.heap.size 136 256 v2 (n + 1) (flatN (layT M n).nx (layT M n).n ++ rowV f)) (hgr : wr.grownBy w2 nv.ownBlock) :
    LyH w (w2.setCell ⟨g, 0, none⟩ v2) M I g mb v2 av lv n L ∧ w2.cell? ⟨g, 0, none⟩ = some nv ∧ w2.frozen? ⟨g, 0, none⟩ = false := by
  have he := Eff.ofGrown hgr
  have hng : ¬ nv.ownBlock = some g := ownsRow_ne h.gr.next h.gr.blk (by decide)
  have hb2 := (he.block g (lt_of_heap h.gr.blk) hng).trans h.gr.blk
  have hacc := h.gr.acc.eff he (fun k hk e => ownsRow_types h.gr.next h.gr.acc (by decide) hk e)
  have hmp := h.mp.eff he (h.mp.ne_row h.gr.next)
  have hall := h.all.eff he (fun k hk e => ownsRow_types h.gr.next h.all (by decide) hk e)
  have hz := h.bl.size
  have hbl := h.bl.grown hgr hz (fun k hk => (World.ownsRow.lt h.gr.next k hk).1)
  have he2 : Eff (· = g) w2 (w2.setCell ⟨g, 0, none⟩ v2) := (Eff.refl (· = g) w2).setCell (p := ⟨g, 0, none⟩) (fun _ => rfl) v2
  have hrow : flatN (layT M n).nx (layT M n).n ++ rowV f = flatN (layT M (n + 1)).nx (n + 1) := by
    subst hf
    exact (flatN_snoc (layT M n).nx n).symm
  rw [hrow] at h2
  exact ⟨⟨blk_set hb2 0 v2, h.gr.hg, arr_eff h2 he2 (fun k hk e => by subst e; exact ownsRow_ne h2 hb2 (by decide) hk), hacc.eff he2 (fun k hk e => by subst e; exact hacc.ne_type hb2 (by decide) hk), hmp.eff he2 (fun e => hmp.ne hb2 e), h.hm,
    hall.eff he2 (fun k hk e => by subst e; exact hall.ne_type hb2 (by decide) hk), h.inv, hbl.setCell (p := ⟨g, 0, none⟩) h.gr.hg v2⟩, blk_cell hb2 0, blk_frozen hb2 0⟩
theorem LyH.accN {v2 : Value} {b : Bool} (h : LyH w wr M I g mb nv av lv n L) (hb : b = (layT M n).acc n) (h2 : Own w2 w.heap.size 4 v2 ((List.range n).map (fun s => .bool ((layT M n).acc s)) ++ [.bool b])) (hgr : wr.grownBy w2 av.ownBlock) :
    LyS w (w2.setCell ⟨g, 1, none⟩ v2) M I g mb nv v2 lv (n + 1) L ∧ w2.cell? ⟨g, 1, none⟩ = some av ∧ w2.frozen? ⟨g, 1, none⟩ = false := by
  have he := Eff.ofGrown hgr
  have hng : ¬ av.ownBlock = some g := h.acc.ne_type h.blk (by decide)
  have hb2 := (he.block g (lt_of_heap h.blk) hng).trans h.blk
  have hnext := arr_eff h.next he (fun k hk e => ownsRow_types h.next h.acc (by decide) e hk)
  have hmp := h.mp.eff he (h.mp.ne_own h.acc)
  have hall := h.all.eff he (fun k hk e => own_types h.all h.acc (by decide) hk e)
  have hbl := h.bl.grown hgr h.bl.size (fun k hk => (h.acc.lt k hk).1)
  have he2 : Eff (· = g) w2 (w2.setCell ⟨g, 1, none⟩ v2) := (Eff.refl (· = g) w2).setCell (p := ⟨g, 1, none⟩) (fun _ => rfl) v2
  have hrow : (List.range n).map (fun s => Value.bool ((layT M n).acc s)) ++ [.bool b] = (List.range (layT M (n + 1)).n).map (fun s => Value.bool ((layT M (n + 1)).acc s)) := by
    subst hb
    show _ = (List.range (n + 1)).map _
    rw [List.range_succ, List.map_append, List.map_singleton]
    rfl
  rw [hrow] at h2
  exact ⟨⟨⟨blk_set hb2 1 v2, h.hg, arr_eff hnext he2 (fun k hk e => by subst e; exact ownsRow_ne hnext hb2 (by decide) hk), h2.eff he2 (fun k hk e => by subst e; exact h2.ne_type hb2 (by decide) hk)⟩, hmp.eff he2 (fun e => hmp.ne hb2 e), h.hm,
    hall.eff he2 (fun k hk e => by subst e; exact hall.ne_type hb2 (by decide) hk), h.inv, hbl.setCell (p := ⟨g, 1, none⟩) h.hg v2⟩, blk_cell hb2 1, blk_frozen hb2 1⟩
end
end Go.Proofs.YtejmjjgbbojfbaaDoor
