/- posts: what unpack's walk stands on. -/
import Derived.Test.YthnpbfadblcicaaDoorZPRow
import Derived.Test.YthnpbfadblcicaaDoorZG8
import Derived.Test.YthnpbfadblcicaaDoorZRPack
import Derived.Test.YthnpbfadblcicaaDoorZG8
import Derived.Test.YthnpbfadblcicaaDoorZG8
namespace Go.Proofs.YthnpbfadblcicaaDoor
set_option linter.unusedVariables false
open Go.ChangeShapes Go.WideShapes Go.ChangeAt Go.RowKit

theorem rerr_of {w : World} {EA : Nat → Addr} (h : Sent6 w EA) : RErr w EA := ⟨h.c1, h.c2, h.c3, h.c4⟩
set_option maxRecDepth 100000 in
theorem rdone_no (w : World) (base p : Nat) (v : Value) (bs : List UInt8) (k : Nat) (h : Rdr w base p v bs k) (hk : k < bs.length) (x : Value) (hx : w.cell? ⟨4, 0, none⟩ = some x) :
    Calls Tryd.prog 63 #[.pointer (some ⟨p, 0, none⟩)] w fun e w' => e = .returned x ∧ ∃ d, w' = w.drewN d := by
  have hc := h.c0
  have hd := h.c1
  have hs := h.sm
  have t1 : decide (k < bs.length) = true := decide_eq_true hk
  clear hk
  go_enter Tryd.func63, Tryd.ntmps63
  go_wp2
  go_quiet (fail)
  go_wp2
  go_ret
  exact ⟨rfl, _, rfl⟩
theorem left_q {w : World} {base p : Nat} {v : Value} {bs : List UInt8} {k : Nat} (h : Rdr w base p v bs k) (n : Nat) : Calls Tryd.prog 62 #[.pointer (some ⟨p, 0, none⟩)] (w.drewN n) fun e w' => e = .returned (.int .i64 ((bs.length : Int) - (k : Int))) ∧ ∃ m, w' = w.drewN m :=
  (rleft_any _ base p v bs k (h.drewN n)).mono fun e w' ⟨he, d, hd⟩ => ⟨he, n + d, by rw [hd, World.drewN_drewN]⟩
theorem done_q {w : World} {base p : Nat} {v : Value} {bs : List UInt8} {k n : Nat} (h : Rdr (w.drewN n) base p v bs k) (hk : k = bs.length) : Calls Tryd.prog 63 #[.pointer (some ⟨p, 0, none⟩)] (w.drewN n) fun e w' => e = .returned .nilIface ∧ ∃ m, w' = w.drewN m :=
  (rdone_any _ base p v bs k h hk).mono fun e w' ⟨he, d, hd⟩ => ⟨he, n + d, by rw [hd, World.drewN_drewN]⟩
theorem done_qn {w : World} {base p : Nat} {v : Value} {bs : List UInt8} {k n : Nat} (h : Rdr (w.drewN n) base p v bs k) (hk : k < bs.length) (x : Value) (hx : (w.drewN n).cell? ⟨4, 0, none⟩ = some x) : Calls Tryd.prog 63 #[.pointer (some ⟨p, 0, none⟩)] (w.drewN n) fun e w' => e = .returned x ∧ ∃ m, w' = w.drewN m :=
  (rdone_no _ base p v bs k h hk x hx).mono fun e w' ⟨he, d, hd⟩ => ⟨he, n + d, by rw [hd, World.drewN_drewN]⟩
def zI (n : Nat) : List Int := List.replicate n 0
theorem zI_length (n : Nat) : (zI n).length = n := by simp [zI]
theorem zI_cells (n : Nat) : intL (zI n) = zerI n := by simp [zI, zerI, intL]
theorem zI_set (acc : List Int) (m : Nat) (h : 0 < m) (x : Int) : (acc ++ zI m).set acc.length x = (acc ++ [x]) ++ zI (m - 1) := by
  obtain ⟨m', rfl⟩ : ∃ m', m = m' + 1 := ⟨m - 1, by omega⟩
  simp [zI, List.replicate_succ]
theorem set_mid {α : Type} (a : List α) (x y : α) (r : List α) : (a ++ x :: r).set a.length y = a ++ y :: r := by simp
theorem get_mid {α : Type} (a : List α) (x : α) (r : List α) (h : a.length < (a ++ x :: r).length) : (a ++ x :: r)[a.length] = x := by simp
theorem RowP.pos' {w : World} {base n c : Nat} {a : Option Addr} {done r : List PostV} {b : Int} {acc : List Int} {m : Nat} {vs : Nat → Value} (h : RowP w base (.slice a n c) (done ++ ⟨b, acc ++ zI m⟩ :: r) vs) {g2 n2 c2 : Nat} (hv : vs done.length = .slice (some ⟨g2, 0, none⟩) n2 c2) (hm : 0 < m) (x : Int) :
    RowP (w.setCell ⟨g2, acc.length, none⟩ (.int .i64 x)) base (.slice a n c) (done ++ ⟨b, (acc ++ [x]) ++ zI (m - 1)⟩ :: r) vs := by
  have hl : done.length < (done ++ (⟨b, acc ++ zI m⟩ : PostV) :: r).length := by simp
  have h1 := h.pos done.length hl hv acc.length x
  rw [get_mid _ _ _ hl, set_mid] at h1
  simp only at h1
  rw [zI_set acc m hm x] at h1
  exact h1
theorem RowP.put' {w : World} {base g n c : Nat} {done r : List PostV} {vs : Nat → Value} (h : RowP w base (.slice (some ⟨g, 0, none⟩) n c) (done ++ pz :: r) vs) (d : Int) (pos : List Int) (s : Value) (hs : Own w base 3 s (intL pos))
    (hsep : ∀ k b, k < (done ++ pz :: r).length → k ≠ done.length → (vs k).ownBlock = some b → s.ownBlock ≠ some b) :
    RowP ((w.setCell ⟨g, done.length * 2, none⟩ (.int .i64 d)).setCell ⟨g, done.length * 2 + 1, none⟩ s) base (.slice (some ⟨g, 0, none⟩) n c) (done ++ ⟨d, pos⟩ :: r) (fun k => if k = done.length then s else vs k) := by
  have hl : done.length < (done ++ pz :: r).length := by simp
  have h1 := h.put done.length hl d pos s hs hsep
  rwa [set_mid] at h1
theorem zPs_succ (n : Nat) (h : 0 < n) : zPs n = pz :: zPs (n - 1) := by
  obtain ⟨m, rfl⟩ : ∃ m, n = m + 1 := ⟨n - 1, by omega⟩
  simp [zPs, List.replicate_succ]
/-- What is still to be read of a block. -/
def contU (done : List PostV) (o : Option (List PostV × List UInt8)) : Option (List PostV × List UInt8) := o.map fun x => (done ++ x.1, x.2)
theorem contU_step (done : List PostV) (x : PostV) (o : Option (List PostV × List UInt8)) : contU done (match o with | none => none | some (ps, l') => some (x :: ps, l')) = contU (done ++ [x]) o := by
  cases o with
  | none => rfl
  | some y => simp [contU]
def finU : Option (List PostV × List UInt8) → Option (List PostV)
  | none => none
  | some (ps, l') => if l' = [] then some ps else none
theorem contU_none {done : List PostV} {R : Option (List PostV × List UInt8)} (h : contU done none = R) : finU R = none := by rw [← h]; rfl
/-- What unpack answers and leaves. -/
def UnpPost (w : World) (base : Int) (n : Nat) (bs : List UInt8) (e : Ending) (w' : World) : Prop :=
  (∀ ps, unpV base n bs = some ps → ∃ A N C vs, e = .returned (.tuple #[.slice A N C, .bool true]) ∧ RowP w' w.heap.size (.slice A N C) ps vs ∧ Below w.heap.size w w') ∧
  (unpV base n bs = none → ∃ A N C, e = .returned (.tuple #[.slice A N C, .bool false]) ∧ Below w.heap.size w w')
theorem UnpPost.no {w : World} {base : Int} {n : Nat} {bs : List UInt8} {w' : World} {A : Option Addr} {N C : Nat} (h : unpV base n bs = none) (hb : Below w.heap.size w w') : UnpPost w base n bs (.returned (.tuple #[.slice A N C, .bool false])) w' :=
  ⟨fun ps hp => (by rw [h] at hp; cases hp), fun _ => ⟨_, _, _, rfl, hb⟩⟩
/-- The state in unpack's loop: a Reader, the list of postings, what lay before stays. -/
structure UnpS (w wm wr : World) (p g : Nat) (rv : Value) (bs : List UInt8) (k n : Nat) (ps : List PostV) (vs : Nat → Value) : Prop where
  rdr : Rdr wr w.heap.size p rv bs k
  row : RowP wr w.heap.size (.slice (some ⟨g, 0, none⟩) n n) ps vs
  eff : Eff (fun k => k = p ∨ k = g) wm wr
  low : w.heap.size ≤ p ∧ p < wm.heap.size ∧ w.heap.size ≤ g ∧ g < wm.heap.size
  wm0 : Below w.heap.size w wm
theorem UnpS.below {w wm wr : World} {p g : Nat} {rv : Value} {bs : List UInt8} {k n : Nat} {ps : List PostV} {vs : Nat → Value} (h : UnpS w wm wr p g rv bs k n ps vs) : Below w.heap.size w wr :=
  h.wm0.trans (h.eff.below (fun k hk => by rcases hk with rfl | rfl; exact h.low.1; exact h.low.2.2.1) h.wm0.size)
theorem UnpS.drewN {w wm wr : World} {p g : Nat} {rv : Value} {bs : List UInt8} {k n : Nat} {ps : List PostV} {vs : Nat → Value} (h : UnpS w wm wr p g rv bs k n ps vs) (d : Nat) : UnpS w wm (wr.drewN d) p g rv bs k n ps vs :=
  ⟨h.rdr.drewN d, ⟨h.row.row, h.row.own, h.row.sep⟩, h.eff.drewN d, h.low, h.wm0⟩
/-- A list of numbers read ahead still reads. -/
theorem UnpS.nums {w wm wr : World} {p g : Nat} {rv : Value} {bs : List UInt8} {k n : Nat} {ps : List PostV} {vs : Nat → Value} (h : UnpS w wm wr p g rv bs k n ps vs) {d : Value} {xs : List Value} (ho : Own wm w.heap.size 3 d xs)
    (hp : d.ownBlock ≠ some p) (hg : d.ownBlock ≠ some g) : Own wr w.heap.size 3 d xs :=
  ho.eff h.eff (fun b hb hF => by rcases hF with rfl | rfl; exact hp hb; exact hg hb)
/-- The Reader moved on. -/
theorem UnpS.read {w wm wr w2 : World} {p g : Nat} {rv : Value} {bs : List UInt8} {k k2 n : Nat} {ps : List PostV} {vs : Nat → Value} (h : UnpS w wm wr p g rv bs k n ps vs) (hr : Rdr w2 w.heap.size p rv bs k2) (he : Eff (· = p) wr w2) : UnpS w wm w2 p g rv bs k2 n ps vs :=
  ⟨hr, h.row.eff he (fun b hb hF => by
    subst hF
    rcases hb with hb | ⟨i, hi, hb⟩
    · exact row_ne_type h.row.row h.rdr.blk (by decide) hb
    · exact (h.row.own i hi).ne_type h.rdr.blk (by decide) hb), h.eff.trans he (fun i hi _ => .inl hi), h.low, h.wm0⟩
/-- A list of zeros made, and put as the next posting's. -/
theorem UnpS.put {w wm wr : World} {p g : Nat} {rv : Value} {bs : List UInt8} {k n m : Nat} {done : List PostV} {vs : Nat → Value} (h : UnpS w wm wr p g rv bs k n (done ++ zPs m) vs) (hm : 0 < m) (d : Int) (f : Nat) (hf : f ≤ 1000000001) :
    UnpS w wm (((wr.alloc (.cells (madeCells #[.int .i64 0] f) 3)).setCell ⟨g, done.length * 2, none⟩ (.int .i64 d)).setCell ⟨g, done.length * 2 + 1, none⟩ (.slice (some ⟨wr.heap.size, 0, none⟩) f f)) p g rv bs k n (done ++ ⟨d, [] ++ zI f⟩ :: zPs (m - 1)) (fun k => if k = done.length then .slice (some ⟨wr.heap.size, 0, none⟩) f f else vs k) := by
  have hrow := h.row
  rw [zPs_succ m hm] at hrow
  have hwB := h.below.size
  have hown0 := own_lit wr w.heap.size 3 (zerI f) hwB (by simp [zerI, maxLen]; omega)
  rw [show (zerI f).length = f by simp [zerI], ← madeZerI, ← zI_cells] at hown0
  have hrowA : RowP (wr.alloc (.cells (madeCells #[.int .i64 0] f) 3)) w.heap.size (.slice (some ⟨g, 0, none⟩) n n) (done ++ pz :: zPs (m - 1)) vs :=
    hrow.eff (F := fun _ => False) ((Eff.refl _ _).alloc _) (fun _ _ f => f)
  have hput := hrowA.put' d (zI f) _ hown0 (fun i b hi hne hb => by
    have := (hrow.own i hi).lt b hb
    simp [Value.ownBlock]; omega)
  have hgp : g ≠ p := fun e => by
    subst e
    exact row_ne_type h.row.row h.rdr.blk (by decide) rfl
  have he1 : Eff (fun k => k = g) wr (((wr.alloc (.cells (madeCells #[.int .i64 0] f) 3)).setCell ⟨g, done.length * 2, none⟩ (.int .i64 d)).setCell ⟨g, done.length * 2 + 1, none⟩ (.slice (some ⟨wr.heap.size, 0, none⟩) f f)) :=
    (((Eff.refl (fun k => k = g) wr).alloc _).setCell (p := ⟨g, done.length * 2, none⟩) (fun _ => rfl) _).setCell (p := ⟨g, done.length * 2 + 1, none⟩) (fun _ => rfl) _
  refine ⟨h.rdr.eff he1 (fun b hb hF => ?_), hput, h.eff.trans he1 (fun i hi _ => .inr hi), h.low, h.wm0⟩
  subst hF
  rcases hb with hb | hb
  · exact hgp hb
  · exact row_ne_own h.row.row h.rdr.own (by decide) rfl hb
/-- A position put. -/
theorem UnpS.pos {w wm wr : World} {p g : Nat} {rv : Value} {bs : List UInt8} {k n m : Nat} {done r : List PostV} {b : Int} {acc : List Int} {vs : Nat → Value} (h : UnpS w wm wr p g rv bs k n (done ++ ⟨b, acc ++ zI m⟩ :: r) vs) {g2 n2 c2 : Nat} (hv : vs done.length = .slice (some ⟨g2, 0, none⟩) n2 c2) (hg2 : wm.heap.size ≤ g2) (hm : 0 < m) (x : Int) :
    UnpS w wm (wr.setCell ⟨g2, acc.length, none⟩ (.int .i64 x)) p g rv bs k n (done ++ ⟨b, (acc ++ [x]) ++ zI (m - 1)⟩ :: r) vs := by
  have hne : p ≠ g2 := fun e => by have := h.low.2.1; omega
  have he1 : Eff (fun k => k = g2) wr (wr.setCell ⟨g2, acc.length, none⟩ (.int .i64 x)) := (Eff.refl (fun k => k = g2) wr).setCell (p := ⟨g2, acc.length, none⟩) (fun _ => rfl) _
  have hl : done.length < (done ++ (⟨b, acc ++ zI m⟩ : PostV) :: r).length := by simp
  have ho := h.row.own done.length hl
  rw [hv] at ho
  refine ⟨h.rdr.eff he1 (fun q hq hF => ?_), h.row.pos' hv hm x, h.eff.setCell (p := ⟨g2, acc.length, none⟩) (fun h9 => absurd h9 (by simp only; omega)) _, h.low, h.wm0⟩
  subst hF
  rcases hq with hq | hq
  · exact hne hq.symm
  · exact own_types ho h.rdr.own (by decide) rfl hq
theorem UnpS.cells {w wm wr : World} {p g : Nat} {rv : Value} {bs : List UInt8} {k n m i : Nat} {done r : List PostV} {b : Int} {acc : List Int} {vs : Nat → Value} (h : UnpS w wm wr p g rv bs k n (done ++ ⟨b, acc ++ zI m⟩ :: r) vs) (hi : done.length = i) {g2 n2 c2 : Nat} (hv : vs i = .slice (some ⟨g2, 0, none⟩) n2 c2) (hm : 0 < m) :
    wr.cell? ⟨g, i * 2 + 1, none⟩ = some (.slice (some ⟨g2, 0, none⟩) n2 c2) ∧ wr.cell? ⟨g2, acc.length, none⟩ = some (.int .i64 0) ∧ wr.frozen? ⟨g2, acc.length, none⟩ = false := by
  subst hi
  have hl : done.length < (done ++ (⟨b, acc ++ zI m⟩ : PostV) :: r).length := by simp
  obtain ⟨g', e1, -, -, -, h1, -⟩ := h.row.at_ done.length hl
  injection e1 with e1
  injection e1 with e1
  subst e1
  have ho := h.row.own done.length hl
  rw [get_mid _ _ _ hl, hv] at ho
  rw [hv] at h1
  refine ⟨h1, ho.get ?_, ho.frozen _⟩
  have hla : acc.length < (acc ++ zI m).length := by rw [List.length_append, zI_length]; omega
  show (intL (acc ++ zI m))[acc.length]? = _
  rw [intL_get _ _ hla]
  rw [List.getElem_append_right (Nat.le_refl _)]
  simp [zI]
end Go.Proofs.YthnpbfadblcicaaDoor
