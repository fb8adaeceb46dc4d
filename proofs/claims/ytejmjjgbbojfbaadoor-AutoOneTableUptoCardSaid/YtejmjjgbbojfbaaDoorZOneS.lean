/- AutoOneTable: what lies in memory beside the tables. -/
import Derived.Test.YtejmjjgbbojfbaaDoorZG15
namespace Go.Proofs.YtejmjjgbbojfbaaDoor
set_option linter.unusedVariables false
open Go.ChangeShapes Go.WideShapes Go.ChangeAt Go.RowKit

theorem blk_ne {Y : World} {b b2 : Nat} {cs cs2 : Array Value} {t t2 : TypeId} {fr fr2 : Nat × Nat} (h : Y.heap[b]? = some (.cells cs t fr)) (h2 : Y.heap[b2]? = some (.cells cs2 t2 fr2)) (hne : t ≠ t2) : b ≠ b2 := fun e => by
  subst e
  rw [h] at h2
  injection h2 with h2
  injection h2 with h3 h4
  exact hne h4
/-- A bound in a variable of the call's own. -/
structure BVar (w Y : World) (b : Nat) (o i : Bool) (s : ByteArray) : Prop where
  blk : Y.heap[b]? = some (.cells #[.bool o, .bool i, .string s] 35 (0, 0))
  hb : w.heap.size ≤ b
theorem BVar.below {w Y Y2 : World} {b : Nat} {o i : Bool} {s : ByteArray} (h : BVar w Y b o i s) (e : Below Y.heap.size Y Y2) : BVar w Y2 b o i s := ⟨(e.block b (lt_of_heap h.blk)).trans h.blk, h.hb⟩
theorem BVar.set {w Y : World} {b b2 : Nat} {o i : Bool} {s : ByteArray} (h : BVar w Y b o i s) {cs : Array Value} (h2 : Y.heap[b2]? = some (.cells cs 54 (0, 0))) (k : Nat) (u : Value) : BVar w (Y.setCell ⟨b2, k, none⟩ u) b o i s :=
  ⟨(Below.heap_setCell Y ⟨b2, k, none⟩ u b (blk_ne h.blk h2 (by decide))).trans h.blk, h.hb⟩
theorem BVar.put3 {w Y : World} {b b2 : Nat} {o i : Bool} {s : ByteArray} (h : BVar w Y b o i s) {c0 c1 c2 : Value} (h2 : Y.heap[b2]? = some (.cells #[c0, c1, c2] 54 (0, 0))) (u v x : Value) : BVar w (put3 Y b2 u v x) b o i s :=
  ((h.set h2 0 u).set (blk_set h2 0 u) 1 v).set (blk_set (blk_set h2 0 u) 1 v) 2 x
theorem BVar.cells {w Y : World} {b : Nat} {o i : Bool} {s : ByteArray} (h : BVar w Y b o i s) : Y.cell? ⟨b, 0, none⟩ = some (.bool o) ∧ Y.cell? ⟨b, 1, none⟩ = some (.bool i) ∧ Y.cell? ⟨b, 2, none⟩ = some (.string s) := ⟨blk_cell h.blk 0, blk_cell h.blk 1, blk_cell h.blk 2⟩
/-- A pattern's machine, all of it from lo on. -/
def WildAt (Y : World) (lo p : Nat) (es : List PEl) : Prop := lo ≤ p ∧ es.length ≤ 1000000000 ∧ ∃ (a : Option Addr) (c : Nat), Y.cell? ⟨p, 0, none⟩ = some (.iface 93 (.agg #[.slice a es.length c])) ∧
  (0 < es.length → ∃ g, a = some ⟨g, 0, none⟩ ∧ lo ≤ g ∧ ∀ (i : Nat) (h : i < es.length), Y.cell? ⟨g, i * 2, none⟩ = some (.int .i64 (es[i].1 : Nat)) ∧ Y.cell? ⟨g, i * 2 + 1, none⟩ = some (.int .u8 (es[i].2.toNat : Nat)))
theorem WildAt.auto {Y : World} {lo p : Nat} {es : List PEl} (h : WildAt Y lo p es) : IsAuto Y p (wildM es) := by
  obtain ⟨h1, h2, a, c, h3, h4⟩ := h
  exact wildM_auto ⟨a, c, rfl, fun h0 => by obtain ⟨g, e, -, hg⟩ := h4 h0; exact ⟨g, e, hg⟩⟩ h2 h3
theorem WildAt.below {Y Y2 : World} {lo p : Nat} {es : List PEl} (h : WildAt Y lo p es) (e : Below Y.heap.size Y Y2) : WildAt Y2 lo p es := by
  obtain ⟨h1, h2, a, c, h3, h4⟩ := h
  refine ⟨h1, h2, a, c, (e.cell (World.block_lt_of_cell? Y _ h3)).trans h3, fun h0 => ?_⟩
  obtain ⟨g, e2, h5, hg⟩ := h4 h0
  refine ⟨g, e2, h5, fun i hi => ?_⟩
  obtain ⟨g1, g2⟩ := hg i hi
  exact ⟨(e.cell (World.block_lt_of_cell? Y _ g1)).trans g1, (e.cell (World.block_lt_of_cell? Y _ g2)).trans g2⟩
theorem WildAt.set {Y : World} {lo p b : Nat} {es : List PEl} (h : WildAt Y lo p es) (hb : b < lo) (k : Nat) (u : Value) : WildAt (Y.setCell ⟨b, k, none⟩ u) lo p es := by
  obtain ⟨h1, h2, a, c, h3, h4⟩ := h
  have key : ∀ (q j : Nat), lo ≤ q → (Y.setCell ⟨b, k, none⟩ u).cell? ⟨q, j, none⟩ = Y.cell? ⟨q, j, none⟩ := fun q j hq => World.cell?_of_block (w := Y) (Below.heap_setCell Y ⟨b, k, none⟩ u q (by show q ≠ b; omega))
  refine ⟨h1, h2, a, c, (key p 0 h1).trans h3, fun h0 => ?_⟩
  obtain ⟨g, e2, h5, hg⟩ := h4 h0
  refine ⟨g, e2, h5, fun i hi => ?_⟩
  obtain ⟨g1, g2⟩ := hg i hi
  exact ⟨(key g _ h5).trans g1, (key g _ h5).trans g2⟩
theorem WildAt.put3 {Y : World} {lo p b : Nat} {es : List PEl} (h : WildAt Y lo p es) (hb : b < lo) (u v x : Value) : WildAt (put3 Y b u v x) lo p es := ((h.set hb 0 u).set hb 1 v).set hb 2 x
theorem elems_rep : ∀ k : Nat, elems (List.replicate k 42) = some (List.replicate k (2, 0))
  | 0 => rfl
  | k + 1 => by rw [List.replicate_succ, elems_star, elems_rep k, List.replicate_succ]; rfl
theorem elems_ls (l : List UInt8) (k : Nat) : elems (litB l ++ List.replicate k 42) = some (lsE l k) := by
  rw [elems_lit, elems_rep]; rfl
set_option maxRecDepth 100000 in
set_option maxHeartbeats 1000000 in
theorem wild_m (w : World) (s : ByteArray) (l : List UInt8) (k : Nat) (he : s.data.toList = litB l ++ List.replicate k 42) (hl : l.length ≤ 40) (hk : k ≤ 3) :
    Calls Tryd.prog 23 #[.string s] w fun e w' => ∃ p, e = .returned (.tuple #[.pointer (some ⟨p, 0, none⟩), .nilIface]) ∧ WildAt w' w.heap.size p (lsE l k) ∧ Below w.heap.size w w' := by
  have hsl : s.size = s.data.toList.length := (Array.length_toList (xs := s.data)).symm
  have h9 := litB_len l
  have hs : s.size ≤ 100 := by rw [hsl, he, List.length_append, List.length_replicate]; omega
  have C0 := elements_any w s (by omega)
  have hes : elems s.data.toList = some (lsE l k) := by rw [he, elems_ls]
  have hel2 : (lsE l k).length ≤ 1000000000 := by rw [lsE_len]; omega
  obtain ⟨es, hE⟩ : ∃ es, lsE l k = es := ⟨_, rfl⟩
  rw [hE] at hes hel2 ⊢
  have HES := Lib.hid hes
  clear hes hsl hE h9 he
  go_enter Tryd.func23, Tryd.ntmps23
  go_wp2_with fail
  refine C0.mono ?_
  rintro e w1 ⟨h1, _⟩
  obtain ⟨v, rfl, hrow, hb1⟩ := h1 es HES.out
  have hrow' := hrow
  obtain ⟨a, c, rfl⟩ := hrow.sl
  have hrd := hrow.rd
  have hn := heap_alloc_new w1 (.cells #[.iface 93 (.agg #[.slice a es.length c])] 83)
  have hb2 : Below w1.heap.size w1 (w1.alloc (.cells #[.iface 93 (.agg #[.slice a es.length c])] 83)) := (Below.refl _ _).alloc (Nat.le_refl _) _
  have ha : WildAt (w1.alloc (.cells #[.iface 93 (.agg #[.slice a es.length c])] 83)) w.heap.size w1.heap.size es := by
    refine ⟨hb1.size, hel2, a, c, blk_cell hn 0, fun h0 => ?_⟩
    obtain ⟨a', c', e9, hg⟩ := hrd.below hb2
    injection e9 with e8 e7 e6
    subst e8
    obtain ⟨g, e5, hg⟩ := hg h0
    refine ⟨g, e5, ?_, hg⟩
    rcases hrow'.2 with ⟨hv, h0'⟩ | ⟨g', cap, cur, hv, hb, hg', hn', _⟩
    · omega
    · injection hv with e4 e3 e2
      rw [e5] at e4
      injection e4 with e4
      injection e4 with e4
      omega
  have HA := Lib.hid ha
  have HB := Lib.hid (hb1.trans (hb2.mono hb1.size))
  clear C0 h1 hrow hrow' hrd hn ha hb1 hb2
  go_wp2
  go_ret2
  exact ⟨_, rfl, HA.out, HB.out⟩
/-- What tableOf gives, laid in a new variable. -/
theorem tvar_of {w Y Y0 : World} {A X : Option Addr} {ca cx : Nat} {T : Tab} {M : Mach} {L : List Nat → Bool} (htab : TabAt Y Y0.heap.size A X ca cx T) (hcan : Canon T (langM M)) (hn : 0 < T.n) (hn2 : T.n ≤ 1024) (hL : ∀ s, langM M s = L s) (hb0 : w.heap.size ≤ Y0.heap.size) (hb : w.heap.size ≤ Y.heap.size) :
    TVar w (Y.alloc (.cells #[.int .i64 0, .slice A T.n ca, .slice X (256 * T.n) cx] 54)) Y.heap.size A X ca cx T L :=
  ⟨heap_alloc_new Y _, (htab.below ((Below.refl _ _).alloc (Nat.le_refl _) _) (Nat.le_refl _)).mono hb0, by have e : langM M = L := funext hL; rw [← e]; exact hcan, hn, hn2, hb⟩
theorem tvar_put {w Y Y0 : World} {b : Nat} {A X A2 X2 : Option Addr} {ca cx ca2 cx2 : Nat} {T T2 : Tab} {M : Mach} {L L2 : List Nat → Bool} (hv : TVar w Y b A2 X2 ca2 cx2 T2 L2) (htab : TabAt Y Y0.heap.size A X ca cx T) (hcan : Canon T (langM M)) (hn : 0 < T.n) (hn2 : T.n ≤ 1024) (hL : ∀ s, langM M s = L s) (hb0 : w.heap.size ≤ Y0.heap.size) :
    TVar w (put3 Y b (.int .i64 0) (.slice A T.n ca) (.slice X (256 * T.n) cx)) b A X ca cx T L :=
  ⟨put3_blk hv.blk, put3_tab (htab.mono hb0) hv.blk, by have e : langM M = L := funext hL; rw [← e]; exact hcan, hn, hn2, hv.hb⟩
/-- A variable's place ahead of a store. -/
structure Ahead (Y : World) (b : Nat) (c0 c1 c2 : Value) : Prop where
  r0 : Y.cell? ⟨b, 0, none⟩ = some c0
  r1 : Y.cell? ⟨b, 1, none⟩ = some c1
  r2 : Y.cell? ⟨b, 2, none⟩ = some c2
  f0 : Y.frozen? ⟨b, 0, none⟩ = false
  f1 : Y.frozen? ⟨b, 1, none⟩ = false
  f2 : Y.frozen? ⟨b, 2, none⟩ = false
theorem TVar.ahead {w Y : World} {b : Nat} {A X : Option Addr} {ca cx : Nat} {T : Tab} {L : List Nat → Bool} (h : TVar w Y b A X ca cx T L) : Ahead Y b (.int .i64 0) (.slice A T.n ca) (.slice X (256 * T.n) cx) :=
  ⟨blk_cell h.blk 0, blk_cell h.blk 1, blk_cell h.blk 2, blk_frozen h.blk 0, blk_frozen h.blk 1, blk_frozen h.blk 2⟩
/-- The two tables of one language are alike: the law's sameTable. -/
theorem samet_v {w Y : World} {b b2 : Nat} {A X A2 X2 : Option Addr} {ca cx ca2 cx2 : Nat} {T T2 : Tab} {L : List Nat → Bool} (h : TVar w Y b A X ca cx T L) (h2 : TVar w Y b2 A2 X2 ca2 cx2 T2 L) :
    Calls Tryd.prog 30 #[.agg #[.int .i64 0, .slice A T.n ca, .slice X (256 * T.n) cx], .agg #[.int .i64 0, .slice A2 T2.n ca2, .slice X2 (256 * T2.n) cx2]] Y fun e w' => e = .returned (.bool true) ∧ Below Y.heap.size Y w' :=
  samet_any Y _ _ A X A2 X2 ca cx ca2 cx2 T T2 h.tab h2.tab (canon_eq h.can h2.can) h.pos (by have := h.le; omega)
/-- A call under a state that lives on. -/
theorem under {G S : World → Prop} (hGS : ∀ Y, G Y → S Y) (hb : ∀ Y Y2, G Y → Below Y.heap.size Y Y2 → G Y2) {f : FuncId} {args : Array Value} {v : Value} {Y : World} (hG : G Y) (C : Calls Tryd.prog f args Y fun e w' => e = .returned v ∧ Below Y.heap.size Y w') : Calls Tryd.prog f args Y fun e w' => e = .returned v ∧ S w' :=
  C.mono fun e w' ⟨h1, h2⟩ => ⟨h1, hGS _ (hb _ _ hG h2)⟩
end Go.Proofs.YtejmjjgbbojfbaaDoor
