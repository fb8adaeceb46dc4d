/- Merged: UnpA, HdA, POpA. -/
import Derived.Test.YtaijepjhmjjecaaDoorZG4
import Derived.Test.YtaijepjhmjjecaaDoorZG7
import Derived.Test.YtaijepjhmjjecaaDoorZRPack
import Derived.Test.YtaijepjhmjjecaaDoorZG7
import Derived.Test.YtaijepjhmjjecaaDoorZG7
import Derived.Test.YtaijepjhmjjecaaDoorZG5
import Derived.Test.YtaijepjhmjjecaaDoorZG11
import Derived.Test.YtaijepjhmjjecaaDoorZG9
/- posts: what unpack's walk stands on. -/
namespace Go.Proofs.YtaijepjhmjjecaaDoor
set_option linter.unusedVariables false
open Go.ChangeShapes Go.WideShapes Go.ChangeAt Go.RowKit

theorem rerr_of {w : World} {EA : Nat → Addr} (h : Sent6 w EA) : RErr w EA := ⟨h.c1, h.c2, h.c3, h.c4⟩
set_option maxRecDepth 100000 in
theorem rdone_no (w : World) (base p : Nat) (v : Value) (bs : List UInt8) (k : Nat) (h : Rdr w base p v bs k) (hk : k < bs.length) (x : Value) (hx : w.cell? ⟨4, 0, none⟩ = some x) :
    Calls Tryd.prog 108 #[.pointer (some ⟨p, 0, none⟩)] w fun e w' => e = .returned x ∧ ∃ d, w' = w.drewN d := by
  have hc := h.c0
  have hd := h.c1
  have hs := h.sm
  have t1 : decide (k < bs.length) = true := decide_eq_true hk
  clear hk
  go_enter Tryd.func108, Tryd.ntmps108
  go_wp2
  go_quiet (fail)
  go_wp2
  go_ret
  exact ⟨rfl, _, rfl⟩
theorem left_q {w : World} {base p : Nat} {v : Value} {bs : List UInt8} {k : Nat} (h : Rdr w base p v bs k) (n : Nat) : Calls Tryd.prog 107 #[.pointer (some ⟨p, 0, none⟩)] (w.drewN n) fun e w' => e = .returned (.int .i64 ((bs.length : Int) - (k : Int))) ∧ ∃ m, w' = w.drewN m :=
  (rleft_any _ base p v bs k (h.drewN n)).mono fun e w' ⟨he, d, hd⟩ => ⟨he, n + d, by rw [hd, World.drewN_drewN]⟩
theorem done_q {w : World} {base p : Nat} {v : Value} {bs : List UInt8} {k n : Nat} (h : Rdr (w.drewN n) base p v bs k) (hk : k = bs.length) : Calls Tryd.prog 108 #[.pointer (some ⟨p, 0, none⟩)] (w.drewN n) fun e w' => e = .returned .nilIface ∧ ∃ m, w' = w.drewN m :=
  (rdone_any _ base p v bs k h hk).mono fun e w' ⟨he, d, hd⟩ => ⟨he, n + d, by rw [hd, World.drewN_drewN]⟩
theorem done_qn {w : World} {base p : Nat} {v : Value} {bs : List UInt8} {k n : Nat} (h : Rdr (w.drewN n) base p v bs k) (hk : k < bs.length) (x : Value) (hx : (w.drewN n).cell? ⟨4, 0, none⟩ = some x) : Calls Tryd.prog 108 #[.pointer (some ⟨p, 0, none⟩)] (w.drewN n) fun e w' => e = .returned x ∧ ∃ m, w' = w.drewN m :=
  (rdone_no _ base p v bs k h hk x hx).mono fun e w' ⟨he, d, hd⟩ => ⟨he, n + d, by rw [hd, World.drewN_drewN]⟩
def zI (n : Nat) : List Int := List.replicate n 0
theorem zI_length (n : Nat) : (zI n).length = n := by simp [zI]
theorem zI_cells (n : Nat) : intL (zI n) = zerI n := by simp [zI, zerI, intL]
theorem zI_set (acc : List Int) (m : Nat) (h : 0 < m) (x : Int) : (acc ++ zI m).set acc.length x = (acc ++ [x]) ++ zI (m - 1) := by
  obtain ⟨m', rfl⟩ : ∃ m', m = m' + 1 := ⟨m - 1, by omega⟩
  simp [zI, List.replicate_succ]
theorem set_mid {α : Type} (a : List α) (x y : α) (r : List α) : (a ++ x :: r).set a.length y = a ++ y :: r := by simp
theorem get_mid {α : Type} (a : List α) (x : α) (r : List α) (h : a.length < (a ++ x :: r).length) : (a ++ x :: r)[a.length] = x := by simp
theorem RowP.pos' {w : World} {base n c : Nat} {a : Option Addr} {done r : List PostV} {b : Int} {acc : List Int} {m : Nat} {vs : Nat → Value} (h : RowP w base (.slice a n c) (done ++ ⟨b, acc ++ zI m⟩ :: r) vs) {g2 n2 c2 : Nat} (hv : vs done.length = .slice (some ⟨g2, 0, none⟩) n2 c2) (hm : 0 < m) (x : Int) :
    RowP (w.setCell ⟨g2, acc.length, none⟩ (.int .i64 x)) base (.slice a n c) (done ++ ⟨b, (acc ++ [x]) ++ zI (m - 1)⟩ :: r) vs := by
  have hl : done.length < (done ++ (⟨b, acc ++ zI m⟩ : PostV) :: r).length := by simp
  have h1 := h.pos done.length hl hv acc.length x
  rw [get_mid _ _ _ hl, set_mid] at h1
  simp only at h1
  rw [zI_set acc m hm x] at h1
  exact h1
theorem RowP.put' {w : World} {base g n c : Nat} {done r : List PostV} {vs : Nat → Value} (h : RowP w base (.slice (some ⟨g, 0, none⟩) n c) (done ++ pz :: r) vs) (d : Int) (pos : List Int) (s : Value) (hs : Own w base 3 s (intL pos))
    (hsep : ∀ k b, k < (done ++ pz :: r).length → k ≠ done.length → (vs k).ownBlock = some b → s.ownBlock ≠ some b) :
    RowP ((w.setCell ⟨g, done.length * 2, none⟩ (.int .i64 d)).setCell ⟨g, done.length * 2 + 1, none⟩ s) base (.slice (some ⟨g, 0, none⟩) n c) (done ++ ⟨d, pos⟩ :: r) (fun k => if k = done.length then s else vs k) := by
  have hl : done.length < (done ++ pz :: r).length := by simp
  have h1 := h.put done.length hl d pos s hs hsep
  rwa [set_mid] at h1
theorem zPs_succ (n : Nat) (h : 0 < n) : zPs n = pz :: zPs (n - 1) := by
  obtain ⟨m, rfl⟩ : ∃ m, n = m + 1 := ⟨n - 1, by omega⟩
  simp [zPs, List.replicate_succ]
/-- What is still to be read of a block. -/
def contU (done : List PostV) (o : Option (List PostV × List UInt8)) : Option (List PostV × List UInt8) := o.map fun x => (done ++ x.1, x.2)
theorem contU_step (done : List PostV) (x : PostV) (o : Option (List PostV × List UInt8)) : contU done (match o with | none => none | some (ps, l') => some (x :: ps, l')) = contU (done ++ [x]) o := by
  cases o with
  | none => rfl
  | some y => simp [contU]
def finU : Option (List PostV × List UInt8) → Option (List PostV)
  | none => none
  | some (ps, l') => if l' = [] then some ps else none
theorem contU_none {done : List PostV} {R : Option (List PostV × List UInt8)} (h : contU done none = R) : finU R = none := by rw [← h]; rfl
/-- What unpack answers and leaves. -/
def UnpPost (w : World) (base : Int) (n : Nat) (bs : List UInt8) (e : Ending) (w' : World) : Prop :=
  (∀ ps, unpV base n bs = some ps → ∃ A N C vs, e = .returned (.tuple #[.slice A N C, .bool true]) ∧ RowP w' w.heap.size (.slice A N C) ps vs ∧ Below w.heap.size w w') ∧
  (unpV base n bs = none → ∃ A N C, e = .returned (.tuple #[.slice A N C, .bool false]) ∧ Below w.heap.size w w')
theorem UnpPost.no {w : World} {base : Int} {n : Nat} {bs : List UInt8} {w' : World} {A : Option Addr} {N C : Nat} (h : unpV base n bs = none) (hb : Below w.heap.size w w') : UnpPost w base n bs (.returned (.tuple #[.slice A N C, .bool false])) w' :=
  ⟨fun ps hp => (by rw [h] at hp; cases hp), fun _ => ⟨_, _, _, rfl, hb⟩⟩
/-- The state in unpack's loop: a Reader, the list of postings, what lay before stays. -/
structure UnpS (w wm wr : World) (p g : Nat) (rv : Value) (bs : List UInt8) (k n : Nat) (ps : List PostV) (vs : Nat → Value) : Prop where
  rdr : Rdr wr w.heap.size p rv bs k
  row : RowP wr w.heap.size (.slice (some ⟨g, 0, none⟩) n n) ps vs
  eff : Eff (fun k => k = p ∨ k = g) wm wr
  low : w.heap.size ≤ p ∧ p < wm.heap.size ∧ w.heap.size ≤ g ∧ g < wm.heap.size
  wm0 : Below w.heap.size w wm
theorem UnpS.below {w wm wr : World} {p g : Nat} {rv : Value} {bs : List UInt8} {k n : Nat} {ps : List PostV} {vs : Nat → Value} (h : UnpS w wm wr p g rv bs k n ps vs) : Below w.heap.size w wr :=
  h.wm0.trans (h.eff.below (fun k hk => by rcases hk with rfl | rfl; exact h.low.1; exact h.low.2.2.1) h.wm0.size)
theorem UnpS.drewN {w wm wr : World} {p g : Nat} {rv : Value} {bs : List UInt8} {k n : Nat} {ps : List PostV} {vs : Nat → Value} (h : UnpS w wm wr p g rv bs k n ps vs) (d : Nat) : UnpS w wm (wr.drewN d) p g rv bs k n ps vs :=
  ⟨h.rdr.drewN d, ⟨h.row.row, h.row.own, h.row.sep⟩, h.eff.drewN d, h.low, h.wm0⟩
/-- A list of numbers read ahead still reads. -/
theorem UnpS.nums {w wm wr : World} {p g : Nat} {rv : Value} {bs : List UInt8} {k n : Nat} {ps : List PostV} {vs : Nat → Value} (h : UnpS w wm wr p g rv bs k n ps vs) {d : Value} {xs : List Value} (ho : Own wm w.heap.size 3 d xs)
    (hp : d.ownBlock ≠ some p) (hg : d.ownBlock ≠ some g) : Own wr w.heap.size 3 d xs :=
  ho.eff h.eff (fun b hb hF => by rcases hF with rfl | rfl; exact hp hb; exact hg hb)
/-- The Reader moved on. -/
theorem UnpS.read {w wm wr w2 : World} {p g : Nat} {rv : Value} {bs : List UInt8} {k k2 n : Nat} {ps : List PostV} {vs : Nat → Value} (h : UnpS w wm wr p g rv bs k n ps vs) (hr : Rdr w2 w.heap.size p rv bs k2) (he : Eff (· = p) wr w2) : UnpS w wm w2 p g rv bs k2 n ps vs :=
  ⟨hr, h.row.eff he (fun b hb hF => by
    subst hF
    rcases hb with hb | ⟨i, hi, hb⟩
    · exact row_ne_type h.row.row h.rdr.blk (by decide) hb
    · exact (h.row.own i hi).ne_type h.rdr.blk (by decide) hb), h.eff.trans he (fun i hi _ => .inl hi), h.low, h.wm0⟩
/-- A list of zeros made, and put as the next posting's. -/
theorem UnpS.put {w wm wr : World} {p g : Nat} {rv : Value} {bs : List UInt8} {k n m : Nat} {done : List PostV} {vs : Nat → Value} (h : UnpS w wm wr p g rv bs k n (done ++ zPs m) vs) (hm : 0 < m) (d : Int) (f : Nat) (hf : f ≤ 1000000001) :
    UnpS w wm (((wr.alloc (.cells (madeCells #[.int .i64 0] f) 3)).setCell ⟨g, done.length * 2, none⟩ (.int .i64 d)).setCell ⟨g, done.length * 2 + 1, none⟩ (.slice (some ⟨wr.heap.size, 0, none⟩) f f)) p g rv bs k n (done ++ ⟨d, [] ++ zI f⟩ :: zPs (m - 1)) (fun k => if k = done.length then .slice (some ⟨wr.heap.size, 0, none⟩) f f else vs k) := by
  have hrow := h.row
  rw [zPs_succ m hm] at hrow
  have hwB := h.below.size
  have hown0 := own_lit wr w.heap.size 3 (zerI f) hwB (by simp [zerI, maxLen]; omega)
  rw [show (zerI f).length = f by simp [zerI], ← madeZerI, ← zI_cells] at hown0
  have hrowA : RowP (wr.alloc (.cells (madeCells #[.int .i64 0] f) 3)) w.heap.size (.slice (some ⟨g, 0, none⟩) n n) (done ++ pz :: zPs (m - 1)) vs :=
    hrow.eff (F := fun _ => False) ((Eff.refl _ _).alloc _) (fun _ _ f => f)
  have hput := hrowA.put' d (zI f) _ hown0 (fun i b hi hne hb => by
    have := (hrow.own i hi).lt b hb
    simp [Value.ownBlock]; omega)
  have hgp : g ≠ p := fun e => by
    subst e
    exact row_ne_type h.row.row h.rdr.blk (by decide) rfl
  have he1 : Eff (fun k => k = g) wr (((wr.alloc (.cells (madeCells #[.int .i64 0] f) 3)).setCell ⟨g, done.length * 2, none⟩ (.int .i64 d)).setCell ⟨g, done.length * 2 + 1, none⟩ (.slice (some ⟨wr.heap.size, 0, none⟩) f f)) :=
    (((Eff.refl (fun k => k = g) wr).alloc _).setCell (p := ⟨g, done.length * 2, none⟩) (fun _ => rfl) _).setCell (p := ⟨g, done.length * 2 + 1, none⟩) (fun _ => rfl) _
  refine ⟨h.rdr.eff he1 (fun b hb hF => ?_), hput, h.eff.trans he1 (fun i hi _ => .inr hi), h.low, h.wm0⟩
  subst hF
  rcases hb with hb | hb
  · exact hgp hb
  · exact row_ne_own h.row.row h.rdr.own (by decide) rfl hb
/-- A position put. -/
theorem UnpS.pos {w wm wr : World} {p g : Nat} {rv : Value} {bs : List UInt8} {k n m : Nat} {done r : List PostV} {b : Int} {acc : List Int} {vs : Nat → Value} (h : UnpS w wm wr p g rv bs k n (done ++ ⟨b, acc ++ zI m⟩ :: r) vs) {g2 n2 c2 : Nat} (hv : vs done.length = .slice (some ⟨g2, 0, none⟩) n2 c2) (hg2 : wm.heap.size ≤ g2) (hm : 0 < m) (x : Int) :
    UnpS w wm (wr.setCell ⟨g2, acc.length, none⟩ (.int .i64 x)) p g rv bs k n (done ++ ⟨b, (acc ++ [x]) ++ zI (m - 1)⟩ :: r) vs := by
  have hne : p ≠ g2 := fun e => by have := h.low.2.1; omega
  have he1 : Eff (fun k => k = g2) wr (wr.setCell ⟨g2, acc.length, none⟩ (.int .i64 x)) := (Eff.refl (fun k => k = g2) wr).setCell (p := ⟨g2, acc.length, none⟩) (fun _ => rfl) _
  have hl : done.length < (done ++ (⟨b, acc ++ zI m⟩ : PostV) :: r).length := by simp
  have ho := h.row.own done.length hl
  rw [hv] at ho
  refine ⟨h.rdr.eff he1 (fun q hq hF => ?_), h.row.pos' hv hm x, h.eff.setCell (p := ⟨g2, acc.length, none⟩) (fun h9 => absurd h9 (by simp only; omega)) _, h.low, h.wm0⟩
  subst hF
  rcases hq with hq | hq
  · exact hne hq.symm
  · exact own_types ho h.rdr.own (by decide) rfl hq
theorem UnpS.cells {w wm wr : World} {p g : Nat} {rv : Value} {bs : List UInt8} {k n m i : Nat} {done r : List PostV} {b : Int} {acc : List Int} {vs : Nat → Value} (h : UnpS w wm wr p g rv bs k n (done ++ ⟨b, acc ++ zI m⟩ :: r) vs) (hi : done.length = i) {g2 n2 c2 : Nat} (hv : vs i = .slice (some ⟨g2, 0, none⟩) n2 c2) (hm : 0 < m) :
    wr.cell? ⟨g, i * 2 + 1, none⟩ = some (.slice (some ⟨g2, 0, none⟩) n2 c2) ∧ wr.cell? ⟨g2, acc.length, none⟩ = some (.int .i64 0) ∧ wr.frozen? ⟨g2, acc.length, none⟩ = false := by
  subst hi
  have hl : done.length < (done ++ (⟨b, acc ++ zI m⟩ : PostV) :: r).length := by simp
  obtain ⟨g', e1, -, -, -, h1, -⟩ := h.row.at_ done.length hl
  injection e1 with e1
  injection e1 with e1
  subst e1
  have ho := h.row.own done.length hl
  rw [get_mid _ _ _ hl, hv] at ho
  rw [hv] at h1
  refine ⟨h1, ho.get ?_, ho.frozen _⟩
  have hla : acc.length < (acc ++ zI m).length := by rw [List.length_append, zI_length]; omega
  show (intL (acc ++ zI m))[acc.length]? = _
  rw [intL_get _ _ hla]
  rw [List.getElem_append_right (Nat.le_refl _)]
  simp [zI]
end Go.Proofs.YtaijepjhmjjecaaDoor

/- posts: what the walk of heads stands on. -/
namespace Go.Proofs.YtaijepjhmjjecaaDoor
set_option linter.unusedVariables false
open Go.ChangeShapes Go.WideShapes Go.ChangeAt Go.RowKit

/-- The state of heads: the List at p (a block of the caller's), a Reader of the call's own, skip entries of the call's own. -/
structure HdS (w wr : World) (B p rp : Nat) (im rv sv : Value) (b : List UInt8) (k n t : Nat) (SS : List SkV) : Prop where
  blk : wr.heap[p]? = some (.cells #[im, .int .i64 (n : Nat), .int .i64 (t : Nat), sv] 115 (0, 0))
  hp : B ≤ p ∧ p < w.heap.size
  img : Own wr B 5 im (bytesV b)
  imlt : ∀ k, im.ownBlock = some k → k < w.heap.size
  sk : RowS wr w.heap.size sv SS
  rdr : Rdr wr w.heap.size rp rv b k
  eff : Eff (· = p) w wr
theorem HdS.drewN {w wr : World} {B p rp : Nat} {im rv sv : Value} {b : List UInt8} {k n t : Nat} {SS : List SkV} (h : HdS w wr B p rp im rv sv b k n t SS) (d : Nat) : HdS w (wr.drewN d) B p rp im rv sv b k n t SS :=
  ⟨h.blk, h.hp, h.img.drewN d, h.imlt, h.sk, h.rdr.drewN d, h.eff.drewN d⟩
theorem HdS.list {w wr : World} {B p rp : Nat} {im rv sv : Value} {b : List UInt8} {k n t : Nat} {SS : List SkV} (h : HdS w wr B p rp im rv sv b k n t SS) (hB : B ≤ w.heap.size) : ListAt wr B p im sv b n t SS :=
  ⟨h.blk, h.hp.1, h.img, h.sk.mono hB⟩
theorem HdS.below {w wr : World} {B p rp : Nat} {im rv sv : Value} {b : List UInt8} {k n t : Nat} {SS : List SkV} (h : HdS w wr B p rp im rv sv b k n t SS) (hB : B ≤ w.heap.size) : Below B w wr :=
  h.eff.below (fun k hk => by subst hk; exact h.hp.1) hB
/-- The Reader moved. -/
theorem HdS.read {w wr w2 : World} {B p rp : Nat} {im rv sv : Value} {b : List UInt8} {k k2 n t : Nat} {SS : List SkV} (h : HdS w wr B p rp im rv sv b k n t SS) (hr : Rdr w2 w.heap.size rp rv b k2) (he : Eff (· = rp) wr w2) : HdS w w2 B p rp im rv sv b k2 n t SS :=
  ⟨(he.block p (lt_of_heap h.blk) (fun e => by have := h.rdr.hp; have := h.hp.2; omega)).trans h.blk, h.hp, h.img.eff he (fun q hq e => by have := h.imlt q hq; have := h.rdr.hp; omega), h.imlt,
    h.sk.eff he (fun q hq e => by subst e; exact h.sk.ne_type h.rdr.blk (by decide) hq), hr, h.eff.trans he (fun i hi h2 => by subst hi; have := h.rdr.hp; omega)⟩
/-- Cells of the List written: its two counts. -/
theorem HdS.counts {w wr : World} {B p rp : Nat} {im rv sv : Value} {b : List UInt8} {k n t : Nat} {SS : List SkV} (h : HdS w wr B p rp im rv sv b k n t SS) (n2 t2 : Nat) :
    HdS w ((wr.setCell ⟨p, 1, none⟩ (.int .i64 (n2 : Nat))).setCell ⟨p, 2, none⟩ (.int .i64 (t2 : Nat))) B p rp im rv sv b k n2 t2 SS := by
  have he : Eff (· = p) wr ((wr.setCell ⟨p, 1, none⟩ (.int .i64 (n2 : Nat))).setCell ⟨p, 2, none⟩ (.int .i64 (t2 : Nat))) := ((Eff.refl (· = p) wr).setP 1 _).setP 2 _
  refine ⟨blk_set (blk_set h.blk 1 _) 2 _, h.hp, h.img.eff he (fun q hq e => by subst e; exact h.img.ne_type h.blk (by decide) hq), h.imlt,
    h.sk.eff he (fun q hq e => by subst e; exact h.sk.ne_type h.blk (by decide) hq), h.rdr.eff he (fun q hq e => ?_), h.eff.trans he (fun i hi _ => hi)⟩
  subst e
  rcases hq with hq | hq
  · have := h.rdr.hp; have := h.hp.2; omega
  · exact h.rdr.own.ne_type h.blk (by decide) hq
/-- The list of entries grown, and stored. -/
theorem HdS.app {w wr w2 : World} {B p rp : Nat} {im rv sv sv2 : Value} {b : List UInt8} {k n t : Nat} {SS SS2 : List SkV} (h : HdS w wr B p rp im rv sv b k n t SS) (hs : RowS w2 w.heap.size sv2 SS2) (hg : wr.grownBy w2 sv.ownBlock) :
    HdS w (w2.setCell ⟨p, 3, none⟩ sv2) B p rp im rv sv2 b k n t SS2 ∧ w2.cell? ⟨p, 3, none⟩ = some sv ∧ w2.frozen? ⟨p, 3, none⟩ = false := by
  have he1 : Eff (fun k => sv.ownBlock = some k) wr w2 := (Eff.refl _ wr).grown hg (fun k hk _ => hk)
  have hb2 := (he1.block p (lt_of_heap h.blk) (h.sk.ne_type h.blk (by decide))).trans h.blk
  have he2 : Eff (· = p) w2 (w2.setCell ⟨p, 3, none⟩ sv2) := (Eff.refl (· = p) w2).setP 3 _
  have him := h.img.eff he1 (fun q hq e => h.sk.ne_own h.img (by decide) e hq)
  have hr := h.rdr.eff he1 (fun q hq e => by
    rcases hq with rfl | hq
    · exact h.sk.ne_type h.rdr.blk (by decide) e
    · exact h.sk.ne_own h.rdr.own (by decide) e hq)
  refine ⟨⟨blk_set hb2 3 _, h.hp, him.eff he2 (fun q hq e => by subst e; exact him.ne_type hb2 (by decide) hq), h.imlt, hs.eff he2 (fun q hq e => by subst e; exact hs.ne_type hb2 (by decide) hq), hr.eff he2 (fun q hq e => ?_), ?_⟩, blk_cell hb2 3, blk_frozen hb2 3⟩
  · subst e
    rcases hq with hq | hq
    · have := h.rdr.hp; have := h.hp.2; omega
    · exact hr.own.ne_type hb2 (by decide) hq
  · exact (h.eff.trans (G := fun k => sv.ownBlock = some k) he1 (fun i hi h2 => by have := (h.sk.lt i hi).1; omega)).trans he2 (fun i hi _ => hi)
theorem HdS.app' {w wr w2 : World} {B p rp : Nat} {im rv sv sv2 : Value} {b : List UInt8} {k n t : Nat} {SS SS2 : List SkV} (h : HdS w wr B p rp im rv sv b k n t SS) (hs : RowS w2 w.heap.size sv2 SS2) (hg : wr.grownBy w2 sv.ownBlock) :
    ∃ sa sc, sv2 = .slice sa SS2.length sc ∧ HdS w (w2.setCell ⟨p, 3, none⟩ sv2) B p rp im rv sv2 b k n t SS2 ∧ w2.cell? ⟨p, 3, none⟩ = some sv ∧ w2.frozen? ⟨p, 3, none⟩ = false := by
  obtain ⟨sa, sc, e⟩ := hs.sl
  exact ⟨sa, sc, e, h.app hs hg⟩
/-- A place told. -/
theorem HdS.fill {w wr : World} {B p rp g ns c : Nat} {im rv : Value} {b : List UInt8} {k n t : Nat} {FF r : List SkV} {s : SkV} (h : HdS w wr B p rp im rv (.slice (some ⟨g, 0, none⟩) ns c) b k n t (FF ++ s :: r)) (x : Nat) :
    HdS w (wr.setCell ⟨g, FF.length * 4 + 2, none⟩ (.int .i64 (x : Nat))) B p rp im rv (.slice (some ⟨g, 0, none⟩) ns c) b k n t (FF ++ ⟨s.last, s.docs, x, s.size⟩ :: r) := by
  have he : Eff (fun q => q = g) wr (wr.setCell ⟨g, FF.length * 4 + 2, none⟩ (.int .i64 (x : Nat))) := (Eff.refl (fun q => q = g) wr).setCell (p := ⟨g, FF.length * 4 + 2, none⟩) (fun _ => rfl) _
  have hgl := (h.sk.lt g rfl).1
  have hpg : p ≠ g := fun e => h.sk.ne_type h.blk (by decide) (by rw [e]; rfl)
  refine ⟨(he.block p (lt_of_heap h.blk) hpg).trans h.blk, h.hp, h.img.eff he (fun q hq e => by subst e; exact h.sk.ne_own h.img (by decide) rfl hq), h.imlt, h.sk.setAt x, h.rdr.eff he (fun q hq e => ?_), h.eff.trans he (fun i hi h2 => by subst hi; omega)⟩
  subst e
  rcases hq with rfl | hq
  · exact h.sk.ne_type h.rdr.blk (by decide) rfl
  · exact h.sk.ne_own h.rdr.own (by decide) rfl hq
set_option maxRecDepth 100000 in
theorem wp_apSk {w0 : World} {l : Int} {d t s : Nat} {base : Nat} {v : Value} {ss : List SkV} (hown : RowS w0 base v ss) (hlen : ss.length ≤ 1000000000) (hbase : base ≤ w0.heap.size)
    {o : Oper} {a : Act} {K : Act → World → Prop} {Q : Exit → Act → World → Prop} (x y : Operand)
    (ho : o.op = .call { callee := .builtin .append, args := #[x, y], argTypes := #[89, 89] }) (hs : a.eval x = v) (hy : a.eval y = .slice (some ⟨w0.heap.size, 0, none⟩) 1 1)
    (h : ∀ v' w', RowS w' base v' (ss ++ [⟨l, d, t, s⟩]) → w0.grownBy w' v.ownBlock → K (a.put o.dst v') w') :
    o.wp Tryd.prog a (w0.alloc (.cells #[.int .i64 l, .int .i64 (d : Nat), .int .i64 (t : Nat), .int .i64 (s : Nat)] 117)) K Q := by
  obtain ⟨i0, hi, hrest⟩ := Option.map_eq_some_iff.1 sk_info
  simp only [Prod.mk.injEq] at hrest
  obtain ⟨h8, hby, hz⟩ := hrest
  obtain ⟨z, hz, hzs⟩ := Option.map_eq_some_iff.1 hz
  obtain ⟨v', w', hr, h2, h3, _⟩ := run_append_own (P := Tryd.prog) (w0.alloc (.cells #[.int .i64 l, .int .i64 (d : Nat), .int .i64 (t : Nat), .int .i64 (s : Nat)] 117)) base 89 o.type 117 i0 z 4 32 Tryd.underlying89 hi hz h8 hby hzs (by decide) v ss.length _ (World.ownsRow.alloc hown _) ⟨w0.heap.size, 0, none⟩ 1 1
    (SkV.cells ⟨l, d, t, s⟩) rfl (fun j x hx => by
      rw [addr_add, Nat.zero_add, blk_cell (heap_alloc_new w0 _) j]
      rw [← hx]; simp [SkV.cells]) (fun x hx => by
      simp only [SkV.cells, List.mem_cons, List.not_mem_nil, or_false] at hx
      rcases hx with rfl | rfl | rfl | rfl <;> rfl) (by unfold maxLen; omega) (by omega) (by simp; omega)
  unfold Oper.wp execOp
  simp only [ho, resolve, invoke, builtin, Sem.run_bind, Sem.run_pure, Result.andThen_ok, List.map_toArray, List.map_cons, List.map_nil, hs, hy, hr]
  refine h v' w' ?_ ?_
  · unfold RowS; rw [List.flatMap_append, List.length_append]; simpa using h2
  · exact ⟨h3.os, h3.tape, h3.output, Nat.le_trans (by simp) h3.size, fun k hk hne => (h3.block k (by simp; omega) hne).trans (Below.heap_alloc _ _ _ hk)⟩
theorem step_apSk {w0 : World} {l : Int} {d t s : Nat} {base : Nat} {v : Value} {ss : List SkV} (hown : RowS w0 base v ss) (hlen : ss.length ≤ 1000000000) (hbase : base ≤ w0.heap.size)
    {ops : Array Oper} {o : Oper} {a : Act} {K : Act → World → Prop} {Q : Exit → Act → World → Prop} {F : Prop} (hgd : o.guard = none) (x y : Operand)
    (ho : o.op = .call { callee := .builtin .append, args := #[x, y], argTypes := #[89, 89] }) (hs : a.eval x = v) (hy : a.eval y = .slice (some ⟨w0.heap.size, 0, none⟩) 1 1)
    (h : ∀ v' w', RowS w' base v' (ss ++ [⟨l, d, t, s⟩]) → w0.grownBy w' v.ownBlock → K (a.put o.dst v') w') :
    if Region.wanted o (yielded ops a.tmps) = true then Oper.wp Tryd.prog o a (w0.alloc (.cells #[.int .i64 l, .int .i64 (d : Nat), .int .i64 (t : Nat), .int .i64 (s : Nat)] 117)) K Q else F := by
  rw [if_pos (by simp [Region.wanted, hgd])]
  exact wp_apSk hown hlen hbase x y ho hs hy h
theorem step_apSk0 {w0 : World} {l : Int} {d s : Nat} {base : Nat} {v : Value} {ss : List SkV} (hown : RowS w0 base v ss) (hlen : ss.length ≤ 1000000000) (hbase : base ≤ w0.heap.size)
    {ops : Array Oper} {o : Oper} {a : Act} {K : Act → World → Prop} {Q : Exit → Act → World → Prop} {F : Prop} (hgd : o.guard = none) (x y : Operand)
    (ho : o.op = .call { callee := .builtin .append, args := #[x, y], argTypes := #[89, 89] }) (hs : a.eval x = v) (hy : a.eval y = .slice (some ⟨w0.heap.size, 0, none⟩) 1 1)
    (h : ∀ v' w', RowS w' base v' (ss ++ [⟨l, d, 0, s⟩]) → w0.grownBy w' v.ownBlock → K (a.put o.dst v') w') :
    if Region.wanted o (yielded ops a.tmps) = true then Oper.wp Tryd.prog o a (w0.alloc (.cells #[.int .i64 l, .int .i64 (d : Nat), .int .i64 0, .int .i64 (s : Nat)] 117)) K Q else F :=
  step_apSk (t := 0) hown hlen hbase hgd x y ho hs hy h
theorem get_midS (a : List SkV) (x : SkV) (r : List SkV) (h : a.length < (a ++ x :: r).length) : (a ++ x :: r)[a.length] = x := by simp
def contE (acc : List SkV) (o : Option (List SkV × List UInt8)) : Option (List SkV × List UInt8) := o.map fun x => (acc ++ x.1, x.2)
def contF (acc : List SkV) (o : Option (List SkV)) : Option (List SkV) := o.map fun x => acc ++ x
/-- What heads answers, behind the entries. -/
def finH (b : List UInt8) (n t : Nat) : Option (List SkV × List UInt8) → Option (Nat × Nat × List SkV)
  | none => none
  | some (S, l') => (fillV b.length (b.length - l'.length) S).map fun S2 => (n, t, S2)
/-- What heads answers and leaves. -/
def HdPost (w : World) (B p : Nat) (im : Value) (b : List UInt8) (e : Ending) (w' : World) : Prop :=
  (headsV b = none → e = .returned (.bool false)) ∧ (∀ n t S, headsV b = some (n, t, S) → e = .returned (.bool true) ∧ ∃ sv, ListAt w' B p im sv b n t S) ∧ Eff (· = p) w w'
theorem HdPost.no {w w' : World} {B p : Nat} {im : Value} {b : List UInt8} (h : headsV b = none) (he : Eff (· = p) w w') : HdPost w B p im b (.returned (.bool false)) w' :=
  ⟨fun _ => rfl, fun n t S hs => (by rw [h] at hs; cases hs), he⟩
end Go.Proofs.YtaijepjhmjjecaaDoor

/- posts: what the walk of Open stands on. -/
namespace Go.Proofs.YtaijepjhmjjecaaDoor
set_option linter.unusedVariables false
open Go.ChangeShapes Go.WideShapes Go.ChangeAt Go.RowKit

def contB (acc : List (List PostV)) (o : Option (List (List PostV))) : Option (List (List PostV)) := o.map fun x => acc ++ x
def finB (n t : Nat) (S : List SkV) : Option (List (List PostV)) → Option OpenR
  | none => none
  | some bl => if totalV bl.flatten = t then some ⟨n, t, S, bl⟩ else none
theorem openV_heads {b : List UInt8} {n t : Nat} {S : List SkV} (h : headsV b = some (n, t, S)) : openV b = finB n t S (blkV b (-1) S) := by
  unfold openV; rw [h]; simp only
  cases blkV b (-1) S <;> rfl
theorem openV_heads0 {b : List UInt8} (h : headsV b = none) : openV b = none := by unfold openV; rw [h]
/-- What the entries are that heads tells. -/
structure HeadsOk (b : List UInt8) (n : Nat) (q : Nat) (R : List SkV) (S : List SkV) : Prop where
  eq : S = putAt q R
  sz : q + sizesV R = b.length
  dc : ∀ s ∈ R, 1 ≤ s.docs ∧ s.docs ≤ 16
  len : S.length ≤ 1000000001
theorem dcs_mem : ∀ (m n : Nat), m = (n + 15) / 16 → ∀ d ∈ dcs m n, 1 ≤ d ∧ d ≤ 16
  | 0, n, hm, d, hd => by simp [dcs] at hd
  | m + 1, n, hm, d, hd => by
    rw [dcs] at hd
    rcases List.mem_cons.1 hd with rfl | hd
    · omega
    · exact dcs_mem m (n - 16) (by omega) d hd
theorem dcs_length : ∀ (m n : Nat), (dcs m n).length = m
  | 0, _ => rfl
  | m + 1, n => by rw [dcs, List.length_cons, dcs_length]
theorem putAt_length : ∀ (q : Nat) (R : List SkV), (putAt q R).length = R.length
  | _, [] => rfl
  | q, s :: r => by rw [putAt, List.length_cons, putAt_length, List.length_cons]
theorem headsOk {b : List UInt8} {n t : Nat} {S : List SkV} (h : headsV b = some (n, t, S)) (hb : b.length ≤ 1000000000) : ∃ q R, HeadsOk b n q R S := by
  unfold headsV at h
  cases h1 : getU b with
  | error e => rw [h1] at h; cases h
  | ok y =>
    obtain ⟨n', j⟩ := y
    rw [h1] at h
    simp only at h
    split at h
    · cases h
    · next hn =>
      cases h2 : getU (b.drop j) with
      | error e => rw [h2] at h; cases h
      | ok y =>
        obtain ⟨t', j2⟩ := y
        rw [h2] at h
        simp only at h
        split at h
        · cases h
        · cases h3 : entV b.length ((n' + 15) / 16) (-1) n' ((b.drop j).drop j2) with
          | none => rw [h3] at h; cases h
          | some y =>
            obtain ⟨S0, l'⟩ := y
            rw [h3] at h
            simp only at h
            cases h4 : fillV b.length (b.length - l'.length) S0 with
            | none => rw [h4] at h; cases h
            | some S3 =>
              rw [h4] at h
              injection h with h
              injection h with e1 h
              injection h with e2 e3
              subst e1 e2 e3
              obtain ⟨f1, f2⟩ := fill_form h4
              obtain ⟨g1, g2⟩ := ent_form _ _ _ _ _ _ (by omega) h3
              refine ⟨_, S0, f1, f2, fun s hs => dcs_mem _ _ rfl s.docs (by rw [← g2]; exact List.mem_map_of_mem hs), ?_⟩
              rw [f1, putAt_length]
              have := congrArg List.length g2
              rw [List.length_map, dcs_length] at this
              omega
/-- What Open answers and leaves. -/
def OpenPost (w : World) (EA : Nat → Addr) (b : List UInt8) (e : Ending) (w' : World) : Prop :=
  (∀ r, openV b = some r → ∃ p im sv, e = .returned (.tuple #[.pointer (some ⟨p, 0, none⟩), .nilIface]) ∧ ListAt w' w.heap.size p im sv b r.n r.t r.sk) ∧
  (openV b = none → e = .returned (.tuple #[.pointer none, errV EA 10])) ∧ Below w.heap.size w w'
theorem OpenPost.no {w w' : World} {EA : Nat → Addr} {b : List UInt8} (h : openV b = none) (hb : Below w.heap.size w w') : OpenPost w EA b (.returned (.tuple #[.pointer none, errV EA 10])) w' :=
  ⟨fun r hr => (by rw [h] at hr; cases hr), fun _ => rfl, hb⟩
/-- The state of Open's loop. -/
structure OpS (w wr : World) (p : Nat) (im sv : Value) (b : List UInt8) (n t : Nat) (S : List SkV) : Prop where
  l : ListAt wr w.heap.size p im sv b n t S
  b : Below w.heap.size w wr
theorem OpS.step {w wr w2 : World} {p : Nat} {im sv : Value} {b : List UInt8} {n t : Nat} {S : List SkV} (h : OpS w wr p im sv b n t S) (hb : Below wr.heap.size wr w2) : OpS w w2 p im sv b n t S :=
  ⟨h.l.below hb (Nat.le_refl _), h.b.trans (hb.mono h.b.size)⟩
theorem OpS.drewN {w wr : World} {p : Nat} {im sv : Value} {b : List UInt8} {n t : Nat} {S : List SkV} (h : OpS w wr p im sv b n t S) (d : Nat) : OpS w (wr.drewN d) p im sv b n t S := ⟨h.l.drewN d, below_drewN h.b d⟩
end Go.Proofs.YtaijepjhmjjecaaDoor
