/- Merged: HdA, POpA. -/
import Derived.Test.YthnpbfadblcicaaDoorZG5
import Derived.Test.YthnpbfadblcicaaDoorZPostO
import Derived.Test.YthnpbfadblcicaaDoorZUnpA
import Derived.Test.YthnpbfadblcicaaDoorZG10
/- posts: what the walk of heads stands on. -/
namespace Go.Proofs.YthnpbfadblcicaaDoor
set_option linter.unusedVariables false
open Go.ChangeShapes Go.WideShapes Go.ChangeAt Go.RowKit

/-- The state of heads: the List at p (a block of the caller's), a Reader of the call's own, skip entries of the call's own. -/
structure HdS (w wr : World) (B p rp : Nat) (im rv sv : Value) (b : List UInt8) (k n t : Nat) (SS : List SkV) : Prop where
  blk : wr.heap[p]? = some (.cells #[im, .int .i64 (n : Nat), .int .i64 (t : Nat), sv] 83 (0, 0))
  hp : B ≤ p ∧ p < w.heap.size
  img : Own wr B 5 im (bytesV b)
  imlt : ∀ k, im.ownBlock = some k → k < w.heap.size
  sk : RowS wr w.heap.size sv SS
  rdr : Rdr wr w.heap.size rp rv b k
  eff : Eff (· = p) w wr
theorem HdS.drewN {w wr : World} {B p rp : Nat} {im rv sv : Value} {b : List UInt8} {k n t : Nat} {SS : List SkV} (h : HdS w wr B p rp im rv sv b k n t SS) (d : Nat) : HdS w (wr.drewN d) B p rp im rv sv b k n t SS :=
  ⟨h.blk, h.hp, h.img.drewN d, h.imlt, h.sk, h.rdr.drewN d, h.eff.drewN d⟩
theorem HdS.list {w wr : World} {B p rp : Nat} {im rv sv : Value} {b : List UInt8} {k n t : Nat} {SS : List SkV} (h : HdS w wr B p rp im rv sv b k n t SS) (hB : B ≤ w.heap.size) : ListAt wr B p im sv b n t SS :=
  ⟨h.blk, h.hp.1, h.img, h.sk.mono hB⟩
theorem HdS.below {w wr : World} {B p rp : Nat} {im rv sv : Value} {b : List UInt8} {k n t : Nat} {SS : List SkV} (h : HdS w wr B p rp im rv sv b k n t SS) (hB : B ≤ w.heap.size) : Below B w wr :=
  h.eff.below (fun k hk => by subst hk; exact h.hp.1) hB
/-- The Reader moved. -/
theorem HdS.read {w wr w2 : World} {B p rp : Nat} {im rv sv : Value} {b : List UInt8} {k k2 n t : Nat} {SS : List SkV} (h : HdS w wr B p rp im rv sv b k n t SS) (hr : Rdr w2 w.heap.size rp rv b k2) (he : Eff (· = rp) wr w2) : HdS w w2 B p rp im rv sv b k2 n t SS :=
  ⟨(he.block p (lt_of_heap h.blk) (fun e => by have := h.rdr.hp; have := h.hp.2; omega)).trans h.blk, h.hp, h.img.eff he (fun q hq e => by have := h.imlt q hq; have := h.rdr.hp; omega), h.imlt,
    h.sk.eff he (fun q hq e => by subst e; exact h.sk.ne_type h.rdr.blk (by decide) hq), hr, h.eff.trans he (fun i hi h2 => by subst hi; have := h.rdr.hp; omega)⟩
/-- Cells of the List written: its two counts. -/
theorem HdS.counts {w wr : World} {B p rp : Nat} {im rv sv : Value} {b : List UInt8} {k n t : Nat} {SS : List SkV} (h : HdS w wr B p rp im rv sv b k n t SS) (n2 t2 : Nat) :
    HdS w ((wr.setCell ⟨p, 1, none⟩ (.int .i64 (n2 : Nat))).setCell ⟨p, 2, none⟩ (.int .i64 (t2 : Nat))) B p rp im rv sv b k n2 t2 SS := by
  have he : Eff (· = p) wr ((wr.setCell ⟨p, 1, none⟩ (.int .i64 (n2 : Nat))).setCell ⟨p, 2, none⟩ (.int .i64 (t2 : Nat))) := ((Eff.refl (· = p) wr).setP 1 _).setP 2 _
  refine ⟨blk_set (blk_set h.blk 1 _) 2 _, h.hp, h.img.eff he (fun q hq e => by subst e; exact h.img.ne_type h.blk (by decide) hq), h.imlt,
    h.sk.eff he (fun q hq e => by subst e; exact h.sk.ne_type h.blk (by decide) hq), h.rdr.eff he (fun q hq e => ?_), h.eff.trans he (fun i hi _ => hi)⟩
  subst e
  rcases hq with hq | hq
  · have := h.rdr.hp; have := h.hp.2; omega
  · exact h.rdr.own.ne_type h.blk (by decide) hq
/-- The list of entries grown, and stored. -/
theorem HdS.app {w wr w2 : World} {B p rp : Nat} {im rv sv sv2 : Value} {b : List UInt8} {k n t : Nat} {SS SS2 : List SkV} (h : HdS w wr B p rp im rv sv b k n t SS) (hs : RowS w2 w.heap.size sv2 SS2) (hg : wr.grownBy w2 sv.ownBlock) :
    HdS w (w2.setCell ⟨p, 3, none⟩ sv2) B p rp im rv sv2 b k n t SS2 ∧ w2.cell? ⟨p, 3, none⟩ = some sv ∧ w2.frozen? ⟨p, 3, none⟩ = false := by
  have he1 : Eff (fun k => sv.ownBlock = some k) wr w2 := (Eff.refl _ wr).grown hg (fun k hk _ => hk)
  have hb2 := (he1.block p (lt_of_heap h.blk) (h.sk.ne_type h.blk (by decide))).trans h.blk
  have he2 : Eff (· = p) w2 (w2.setCell ⟨p, 3, none⟩ sv2) := (Eff.refl (· = p) w2).setP 3 _
  have him := h.img.eff he1 (fun q hq e => h.sk.ne_own h.img (by decide) e hq)
  have hr := h.rdr.eff he1 (fun q hq e => by
    rcases hq with rfl | hq
    · exact h.sk.ne_type h.rdr.blk (by decide) e
    · exact h.sk.ne_own h.rdr.own (by decide) e hq)
  refine ⟨⟨blk_set hb2 3 _, h.hp, him.eff he2 (fun q hq e => by subst e; exact him.ne_type hb2 (by decide) hq), h.imlt, hs.eff he2 (fun q hq e => by subst e; exact hs.ne_type hb2 (by decide) hq), hr.eff he2 (fun q hq e => ?_), ?_⟩, blk_cell hb2 3, blk_frozen hb2 3⟩
  · subst e
    rcases hq with hq | hq
    · have := h.rdr.hp; have := h.hp.2; omega
    · exact hr.own.ne_type hb2 (by decide) hq
  · exact (h.eff.trans (G := fun k => sv.ownBlock = some k) he1 (fun i hi h2 => by have := (h.sk.lt i hi).1; omega)).trans he2 (fun i hi _ => hi)
theorem HdS.app' {w wr w2 : World} {B p rp : Nat} {im rv sv sv2 : Value} {b : List UInt8} {k n t : Nat} {SS SS2 : List SkV} (h : HdS w wr B p rp im rv sv b k n t SS) (hs : RowS w2 w.heap.size sv2 SS2) (hg : wr.grownBy w2 sv.ownBlock) :
    ∃ sa sc, sv2 = .slice sa SS2.length sc ∧ HdS w (w2.setCell ⟨p, 3, none⟩ sv2) B p rp im rv sv2 b k n t SS2 ∧ w2.cell? ⟨p, 3, none⟩ = some sv ∧ w2.frozen? ⟨p, 3, none⟩ = false := by
  obtain ⟨sa, sc, e⟩ := hs.sl
  exact ⟨sa, sc, e, h.app hs hg⟩
/-- A place told. -/
theorem HdS.fill {w wr : World} {B p rp g ns c : Nat} {im rv : Value} {b : List UInt8} {k n t : Nat} {FF r : List SkV} {s : SkV} (h : HdS w wr B p rp im rv (.slice (some ⟨g, 0, none⟩) ns c) b k n t (FF ++ s :: r)) (x : Nat) :
    HdS w (wr.setCell ⟨g, FF.length * 4 + 2, none⟩ (.int .i64 (x : Nat))) B p rp im rv (.slice (some ⟨g, 0, none⟩) ns c) b k n t (FF ++ ⟨s.last, s.docs, x, s.size⟩ :: r) := by
  have he : Eff (fun q => q = g) wr (wr.setCell ⟨g, FF.length * 4 + 2, none⟩ (.int .i64 (x : Nat))) := (Eff.refl (fun q => q = g) wr).setCell (p := ⟨g, FF.length * 4 + 2, none⟩) (fun _ => rfl) _
  have hgl := (h.sk.lt g rfl).1
  have hpg : p ≠ g := fun e => h.sk.ne_type h.blk (by decide) (by rw [e]; rfl)
  refine ⟨(he.block p (lt_of_heap h.blk) hpg).trans h.blk, h.hp, h.img.eff he (fun q hq e => by subst e; exact h.sk.ne_own h.img (by decide) rfl hq), h.imlt, h.sk.setAt x, h.rdr.eff he (fun q hq e => ?_), h.eff.trans he (fun i hi h2 => by subst hi; omega)⟩
  subst e
  rcases hq with rfl | hq
  · exact h.sk.ne_type h.rdr.blk (by decide) rfl
  · exact h.sk.ne_own h.rdr.own (by decide) rfl hq
set_option maxRecDepth 100000 in
theorem wp_apSk {w0 : World} {l : Int} {d t s : Nat} {base : Nat} {v : Value} {ss : List SkV} (hown : RowS w0 base v ss) (hlen : ss.length ≤ 1000000000) (hbase : base ≤ w0.heap.size)
    {o : Oper} {a : Act} {K : Act → World → Prop} {Q : Exit → Act → World → Prop} (x y : Operand)
    (ho : o.op = .call { callee := .builtin .append, args := #[x, y], argTypes := #[37, 37] }) (hs : a.eval x = v) (hy : a.eval y = .slice (some ⟨w0.heap.size, 0, none⟩) 1 1)
    (h : ∀ v' w', RowS w' base v' (ss ++ [⟨l, d, t, s⟩]) → w0.grownBy w' v.ownBlock → K (a.put o.dst v') w') :
    o.wp Tryd.prog a (w0.alloc (.cells #[.int .i64 l, .int .i64 (d : Nat), .int .i64 (t : Nat), .int .i64 (s : Nat)] 45)) K Q := by
  obtain ⟨i0, hi, hrest⟩ := Option.map_eq_some_iff.1 sk_info
  simp only [Prod.mk.injEq] at hrest
  obtain ⟨h8, hby, hz⟩ := hrest
  obtain ⟨z, hz, hzs⟩ := Option.map_eq_some_iff.1 hz
  obtain ⟨v', w', hr, h2, h3, _⟩ := run_append_own (P := Tryd.prog) (w0.alloc (.cells #[.int .i64 l, .int .i64 (d : Nat), .int .i64 (t : Nat), .int .i64 (s : Nat)] 45)) base 37 o.type 45 i0 z 4 32 Tryd.underlying37 hi hz h8 hby hzs (by decide) v ss.length _ (World.ownsRow.alloc hown _) ⟨w0.heap.size, 0, none⟩ 1 1
    (SkV.cells ⟨l, d, t, s⟩) rfl (fun j x hx => by
      rw [addr_add, Nat.zero_add, blk_cell (heap_alloc_new w0 _) j]
      rw [← hx]; simp [SkV.cells]) (fun x hx => by
      simp only [SkV.cells, List.mem_cons, List.not_mem_nil, or_false] at hx
      rcases hx with rfl | rfl | rfl | rfl <;> rfl) (by unfold maxLen; omega) (by omega) (by simp; omega)
  unfold Oper.wp execOp
  simp only [ho, resolve, invoke, builtin, Sem.run_bind, Sem.run_pure, Result.andThen_ok, List.map_toArray, List.map_cons, List.map_nil, hs, hy, hr]
  refine h v' w' ?_ ?_
  · unfold RowS; rw [List.flatMap_append, List.length_append]; simpa using h2
  · exact ⟨h3.os, h3.tape, h3.output, Nat.le_trans (by simp) h3.size, fun k hk hne => (h3.block k (by simp; omega) hne).trans (Below.heap_alloc _ _ _ hk)⟩
theorem step_apSk {w0 : World} {l : Int} {d t s : Nat} {base : Nat} {v : Value} {ss : List SkV} (hown : RowS w0 base v ss) (hlen : ss.length ≤ 1000000000) (hbase : base ≤ w0.heap.size)
    {ops : Array Oper} {o : Oper} {a : Act} {K : Act → World → Prop} {Q : Exit → Act → World → Prop} {F : Prop} (hgd : o.guard = none) (x y : Operand)
    (ho : o.op = .call { callee := .builtin .append, args := #[x, y], argTypes := #[37, 37] }) (hs : a.eval x = v) (hy : a.eval y = .slice (some ⟨w0.heap.size, 0, none⟩) 1 1)
    (h : ∀ v' w', RowS w' base v' (ss ++ [⟨l, d, t, s⟩]) → w0.grownBy w' v.ownBlock → K (a.put o.dst v') w') :
    if Region.wanted o (yielded ops a.tmps) = true then Oper.wp Tryd.prog o a (w0.alloc (.cells #[.int .i64 l, .int .i64 (d : Nat), .int .i64 (t : Nat), .int .i64 (s : Nat)] 45)) K Q else F := by
  rw [if_pos (by simp [Region.wanted, hgd])]
  exact wp_apSk hown hlen hbase x y ho hs hy h
theorem step_apSk0 {w0 : World} {l : Int} {d s : Nat} {base : Nat} {v : Value} {ss : List SkV} (hown : RowS w0 base v ss) (hlen : ss.length ≤ 1000000000) (hbase : base ≤ w0.heap.size)
    {ops : Array Oper} {o : Oper} {a : Act} {K : Act → World → Prop} {Q : Exit → Act → World → Prop} {F : Prop} (hgd : o.guard = none) (x y : Operand)
    (ho : o.op = .call { callee := .builtin .append, args := #[x, y], argTypes := #[37, 37] }) (hs : a.eval x = v) (hy : a.eval y = .slice (some ⟨w0.heap.size, 0, none⟩) 1 1)
    (h : ∀ v' w', RowS w' base v' (ss ++ [⟨l, d, 0, s⟩]) → w0.grownBy w' v.ownBlock → K (a.put o.dst v') w') :
    if Region.wanted o (yielded ops a.tmps) = true then Oper.wp Tryd.prog o a (w0.alloc (.cells #[.int .i64 l, .int .i64 (d : Nat), .int .i64 0, .int .i64 (s : Nat)] 45)) K Q else F :=
  step_apSk (t := 0) hown hlen hbase hgd x y ho hs hy h
theorem get_midS (a : List SkV) (x : SkV) (r : List SkV) (h : a.length < (a ++ x :: r).length) : (a ++ x :: r)[a.length] = x := by simp
def contE (acc : List SkV) (o : Option (List SkV × List UInt8)) : Option (List SkV × List UInt8) := o.map fun x => (acc ++ x.1, x.2)
def contF (acc : List SkV) (o : Option (List SkV)) : Option (List SkV) := o.map fun x => acc ++ x
/-- What heads answers, behind the entries. -/
def finH (b : List UInt8) (n t : Nat) : Option (List SkV × List UInt8) → Option (Nat × Nat × List SkV)
  | none => none
  | some (S, l') => (fillV b.length (b.length - l'.length) S).map fun S2 => (n, t, S2)
/-- What heads answers and leaves. -/
def HdPost (w : World) (B p : Nat) (im : Value) (b : List UInt8) (e : Ending) (w' : World) : Prop :=
  (headsV b = none → e = .returned (.bool false)) ∧ (∀ n t S, headsV b = some (n, t, S) → e = .returned (.bool true) ∧ ∃ sv, ListAt w' B p im sv b n t S) ∧ Eff (· = p) w w'
theorem HdPost.no {w w' : World} {B p : Nat} {im : Value} {b : List UInt8} (h : headsV b = none) (he : Eff (· = p) w w') : HdPost w B p im b (.returned (.bool false)) w' :=
  ⟨fun _ => rfl, fun n t S hs => (by rw [h] at hs; cases hs), he⟩
end Go.Proofs.YthnpbfadblcicaaDoor

/- posts: what the walk of Open stands on. -/
namespace Go.Proofs.YthnpbfadblcicaaDoor
set_option linter.unusedVariables false
open Go.ChangeShapes Go.WideShapes Go.ChangeAt Go.RowKit

def contB (acc : List (List PostV)) (o : Option (List (List PostV))) : Option (List (List PostV)) := o.map fun x => acc ++ x
def finB (n t : Nat) (S : List SkV) : Option (List (List PostV)) → Option OpenR
  | none => none
  | some bl => if totalV bl.flatten = t then some ⟨n, t, S, bl⟩ else none
theorem openV_heads {b : List UInt8} {n t : Nat} {S : List SkV} (h : headsV b = some (n, t, S)) : openV b = finB n t S (blkV b (-1) S) := by
  unfold openV; rw [h]; simp only
  cases blkV b (-1) S <;> rfl
theorem openV_heads0 {b : List UInt8} (h : headsV b = none) : openV b = none := by unfold openV; rw [h]
/-- What the entries are that heads tells. -/
structure HeadsOk (b : List UInt8) (n : Nat) (q : Nat) (R : List SkV) (S : List SkV) : Prop where
  eq : S = putAt q R
  sz : q + sizesV R = b.length
  dc : ∀ s ∈ R, 1 ≤ s.docs ∧ s.docs ≤ 16
  len : S.length ≤ 1000000001
theorem dcs_mem : ∀ (m n : Nat), m = (n + 15) / 16 → ∀ d ∈ dcs m n, 1 ≤ d ∧ d ≤ 16
  | 0, n, hm, d, hd => by simp [dcs] at hd
  | m + 1, n, hm, d, hd => by
    rw [dcs] at hd
    rcases List.mem_cons.1 hd with rfl | hd
    · omega
    · exact dcs_mem m (n - 16) (by omega) d hd
theorem dcs_length : ∀ (m n : Nat), (dcs m n).length = m
  | 0, _ => rfl
  | m + 1, n => by rw [dcs, List.length_cons, dcs_length]
theorem putAt_length : ∀ (q : Nat) (R : List SkV), (putAt q R).length = R.length
  | _, [] => rfl
  | q, s :: r => by rw [putAt, List.length_cons, putAt_length, List.length_cons]
theorem headsOk {b : List UInt8} {n t : Nat} {S : List SkV} (h : headsV b = some (n, t, S)) (hb : b.length ≤ 1000000000) : ∃ q R, HeadsOk b n q R S := by
  unfold headsV at h
  cases h1 : getU b with
  | error e => rw [h1] at h; cases h
  | ok y =>
    obtain ⟨n', j⟩ := y
    rw [h1] at h
    simp only at h
    split at h
    · cases h
    · next hn =>
      cases h2 : getU (b.drop j) with
      | error e => rw [h2] at h; cases h
      | ok y =>
        obtain ⟨t', j2⟩ := y
        rw [h2] at h
        simp only at h
        split at h
        · cases h
        · cases h3 : entV b.length ((n' + 15) / 16) (-1) n' ((b.drop j).drop j2) with
          | none => rw [h3] at h; cases h
          | some y =>
            obtain ⟨S0, l'⟩ := y
            rw [h3] at h
            simp only at h
            cases h4 : fillV b.length (b.length - l'.length) S0 with
            | none => rw [h4] at h; cases h
            | some S3 =>
              rw [h4] at h
              injection h with h
              injection h with e1 h
              injection h with e2 e3
              subst e1 e2 e3
              obtain ⟨f1, f2⟩ := fill_form h4
              obtain ⟨g1, g2⟩ := ent_form _ _ _ _ _ _ (by omega) h3
              refine ⟨_, S0, f1, f2, fun s hs => dcs_mem _ _ rfl s.docs (by rw [← g2]; exact List.mem_map_of_mem hs), ?_⟩
              rw [f1, putAt_length]
              have := congrArg List.length g2
              rw [List.length_map, dcs_length] at this
              omega
/-- What Open answers and leaves. -/
def OpenPost (w : World) (EA : Nat → Addr) (b : List UInt8) (e : Ending) (w' : World) : Prop :=
  (∀ r, openV b = some r → ∃ p im sv, e = .returned (.tuple #[.pointer (some ⟨p, 0, none⟩), .nilIface]) ∧ ListAt w' w.heap.size p im sv b r.n r.t r.sk) ∧
  (openV b = none → e = .returned (.tuple #[.pointer none, errV EA 10])) ∧ Below w.heap.size w w'
theorem OpenPost.no {w w' : World} {EA : Nat → Addr} {b : List UInt8} (h : openV b = none) (hb : Below w.heap.size w w') : OpenPost w EA b (.returned (.tuple #[.pointer none, errV EA 10])) w' :=
  ⟨fun r hr => (by rw [h] at hr; cases hr), fun _ => rfl, hb⟩
/-- The state of Open's loop. -/
structure OpS (w wr : World) (p : Nat) (im sv : Value) (b : List UInt8) (n t : Nat) (S : List SkV) : Prop where
  l : ListAt wr w.heap.size p im sv b n t S
  b : Below w.heap.size w wr
theorem OpS.step {w wr w2 : World} {p : Nat} {im sv : Value} {b : List UInt8} {n t : Nat} {S : List SkV} (h : OpS w wr p im sv b n t S) (hb : Below wr.heap.size wr w2) : OpS w w2 p im sv b n t S :=
  ⟨h.l.below hb (Nat.le_refl _), h.b.trans (hb.mono h.b.size)⟩
theorem OpS.drewN {w wr : World} {p : Nat} {im sv : Value} {b : List UInt8} {n t : Nat} {S : List SkV} (h : OpS w wr p im sv b n t S) (d : Nat) : OpS w (wr.drewN d) p im sv b n t S := ⟨h.l.drewN d, below_drewN h.b d⟩
end Go.Proofs.YthnpbfadblcicaaDoor
