/- concordhand: a list of ints that is handed in with marked spare room: made, given, looked at, written over. -/
import Derived.Test.YtmmflhippbegaaaDoorZLib
import Derived.Test.YtmmflhippbegaaaDoorZSame
namespace Go.Proofs.YtmmflhippbegaaaDoor
set_option linter.unusedVariables false
open Go.ChangeShapes Go.WideShapes Go.ChangeAt Go.RowKit

def hndN (i : Nat) : Int := -77000 - i
def ims (n : Nat) : List Int := (List.range n).map hndN
theorem intL_set (l : List Int) (i : Nat) (x : Int) : intL (l.set i x) = (intL l).set i (.int .i64 x) := by simp [intL, List.map_set]
theorem intL_snoc (l : List Int) (z : Int) : intL (l ++ [z]) = intL l ++ [.int .i64 z] := by rw [intL_append]; rfl
theorem ims_succ (n : Nat) : ims (n + 1) = ims n ++ [hndN n] := by simp [ims, List.range_succ]
theorem ims_length (n : Nat) : (ims n).length = n := by simp [ims]
/-- The hand of ints at block p: the list full (with its marks) and what it should hold, want; n: how many are its own. -/
structure HandI (w : World) (base p : Nat) (vf vw : Value) (full want : List Int) (n : Nat) : Prop where
  blk : w.heap[p]? = some (.cells #[vf, vw, .int .i64 (n : Nat)] 143 (0, 0))
  hp : base ≤ p
  f : Own w base 3 vf (intL full)
  g : Own w base 3 vw (intL want)
  ne : ∀ k, vf.ownBlock = some k → vw.ownBlock ≠ some k

set_option maxRecDepth 100000 in
set_option maxHeartbeats 2000000 in
theorem handI_any (w : World) (a : Option Addr) (n c : Nat) (bs : List Int) (hr : Rd w (.slice a n c) (intL bs)) (hn : bs.length ≤ 1000000000) :
    Calls Tryd.prog 88 #[.slice a n c] w fun e w' => ∃ p vf vw, e = .returned (.pointer (some ⟨p, 0, none⟩)) ∧ HandI w' w.heap.size p vf vw (bs ++ ims 80) (bs ++ ims 80) bs.length ∧ Below w.heap.size w w' := by
  have hnl : n = bs.length := by obtain ⟨A, c', h, _⟩ := hr; injection h with _ h _; rw [h, intL_length]
  subst hnl
  have hbs : (intL bs).length ≤ 1000000000 := by rw [intL_length]; exact hn
  have hrW : Rd (w.alloc (.cells #[.slice none 0 0, .slice none 0 0, .int .i64 (bs.length : Nat)] 143)) (.slice a bs.length c) (intL bs) := hr.below ((Below.refl _ _).alloc (Nat.le_refl _) _) (Nat.le_refl _)
  have hpW : (w.alloc (.cells #[.slice none 0 0, .slice none 0 0, .int .i64 (bs.length : Nat)] 143)).heap[w.heap.size]? = some (.cells #[.slice none 0 0, .slice none 0 0, .int .i64 (bs.length : Nat)] 143 (0, 0)) := heap_alloc_new w _
  have hbW : Below w.heap.size w (w.alloc (.cells #[.slice none 0 0, .slice none 0 0, .int .i64 (bs.length : Nat)] 143)) := (Below.refl _ _).alloc (Nat.le_refl _) _
  have hnil : Own (w.alloc (.cells #[.slice none 0 0, .slice none 0 0, .int .i64 (bs.length : Nat)] 143)) w.heap.size 3 (.slice none 0 0) [] := own_nil _ _ _
  have hl0 : ([] : List Value).length + (intL bs).length < 1000000000001 := by simp; omega
  have HR := Lib.hid hrW; have HP := Lib.hid hpW; have HB := Lib.hid hbW; have HO := Lib.hid (intL_one bs)
  clear hrW hpW hbW hr
  go_enter Tryd.func88, Tryd.ntmps88
  go_wp2_with (at_builtin; with_reducible refine apN elInts hnil HR.out HO.out hl0 (by simp) rfl _ _ rfl rfl rfl ?_)
  intro v' w1 g1 g2 g3 g4
  have hb1 : Below w.heap.size w w1 := HB.out.grown g4 (by simp) (fun k hk => by simp [Value.ownBlock] at hk)
  have hp1 : w1.heap[w.heap.size]? = some (.cells #[.slice none 0 0, .slice none 0 0, .int .i64 (bs.length : Nat)] 143 (0, 0)) := (g4.block _ (by simp) (by simp [Value.ownBlock])).trans HP.out
  obtain ⟨a1, n1, c1, rfl⟩ := own_sl g1
  have hc1 : w1.cell? ⟨w.heap.size, 0, none⟩ = some (.slice none 0 0) := blk_cell hp1 0
  have hf1 := blk_frozen hp1 0
  have hp2 := blk_set hp1 0 (.slice a1 n1 c1)
  have g1' := g1.setOther (p := ⟨w.heap.size, 0, none⟩) (g1.ne_type hp1 (by decide)) (.slice a1 n1 c1)
  have hb2 := hb1.setCell (p := ⟨w.heap.size, 0, none⟩) (Nat.le_refl _) (.slice a1 n1 c1)
  have HP2 := Lib.hid hp2
  clear hp1 hp2 g1 g2 g3 g4 hb1
  go_wp2
  go_loopw [4] (fun s wr => ∃ (i : Nat) (v : Value), s = .int .i64 i ∧ i ≤ 80 ∧ wr.heap[w.heap.size]? = some (.cells #[v, .slice none 0 0, .int .i64 (bs.length : Nat)] 143 (0, 0)) ∧ Own wr w.heap.size 3 v (intL (bs ++ ims i)) ∧ Below w.heap.size w wr) (fun s _ => 80 - (intOf s).toNat)
  case atStart => exact ⟨0, _, rfl, by omega, HP2.out, by simpa [ims] using g1', hb2⟩
  case round =>
    obtain ⟨i, v, rfl, hi, hp, hv, hb⟩ := hrel
    have hc0 : wr.cell? ⟨w.heap.size, 0, none⟩ = some v := blk_cell hp 0
    have hc1 : wr.cell? ⟨w.heap.size, 1, none⟩ = some (.slice none 0 0) := blk_cell hp 1
    obtain ⟨av, nv, cv, rfl⟩ := own_sl hv
    have HP := Lib.hid hp
    clear hp
    by_cases hlt : i < 80
    · have hl : (intL (bs ++ ims i)).length < 1000000000000 := by rw [intL_length, List.length_append, ims_length]; omega
      have hsz := hb.size
      go_wp2_with (at_builtin; with_reducible refine ap1' elInts rfl hv hl hsz rfl _ _ rfl rfl rfl ?_)
      intro v' w1 g1 g2 g3 g4
      have hne := hv.ne_type HP.out (by decide)
      have hp1 : w1.heap[w.heap.size]? = some (.cells #[.slice av nv cv, .slice none 0 0, .int .i64 (bs.length : Nat)] 143 (0, 0)) := (g4.block _ (lt_of_heap HP.out) (fun e => hne e.symm)).trans HP.out
      have hb1 := hb.grown g4 hsz (fun k hk => (hv.lt k hk).1)
      obtain ⟨a1, n1, c1, rfl⟩ := own_sl g1
      have hc1 : w1.cell? ⟨w.heap.size, 0, none⟩ = some (.slice av nv cv) := blk_cell hp1 0
      have hf1 := blk_frozen hp1 0
      have hp2 := blk_set hp1 0 (.slice a1 n1 c1)
      have g1' := g1.setOther (p := ⟨w.heap.size, 0, none⟩) (g1.ne_type hp1 (by decide)) (.slice a1 n1 c1)
      have hb2 := hb1.setCell (p := ⟨w.heap.size, 0, none⟩) (Nat.le_refl _) (.slice a1 n1 c1)
      have HP2 := Lib.hid hp2
      clear hp1 hp2 g1 g2 g3 g4 hb1
      go_wp2
      go_roundw
      case rel => exact ⟨i + 1, _, by go_num, by omega, HP2.out, own_to g1' (by rw [ims_succ, ← List.append_assoc, intL_snoc]; rfl), hb2⟩
      case measure => simp [intOf]; omega
    · obtain rfl : i = 80 := by omega
      have hsz := hb.size
      have hnil2 : Own wr w.heap.size 3 (.slice none 0 0) [] := own_nil _ _ _
      have hl0 : ([] : List Value).length + (intL (bs ++ ims 80)).length < 1000000000001 := by rw [intL_length, List.length_append, ims_length]; simp; omega
      have HO2 := Lib.hid (intL_one (bs ++ ims 80))
      have hrd := hv.rd
      go_upto_region 7 with fail
      go_region_law (refine step_apN elInts hnil2.drew hv.drew.rd HO2.out hl0 hsz rfl (.tmp 37) (.tmp 41) rfl rfl rfl ?_; intro v' w1 g1 g2 g3 g4; obtain ⟨a1, n1, c1, rfl⟩ := own_sl g1; have hp1 := Lib.hid ((g4.block _ (lt_of_heap HP.out) (by simp [Value.ownBlock])).trans HP.out); have hc1 : w1.cell? ⟨w.heap.size, 1, none⟩ = some (.slice none 0 0) := blk_cell hp1.out 1; have hf1 : w1.frozen? ⟨w.heap.size, 1, none⟩ = false := blk_frozen hp1.out 1)
      all_goals go_wp2
      all_goals go_ret
      all_goals
        have hp2 := blk_set hp1.out 1 (.slice a1 n1 c1)
        have hv1 := g2 _ _ _ _ hv.drew (fun k h => by simp [Value.ownBlock] at h)
        have hb1 : Below w.heap.size w w1 := hb.drew.grown g4 hsz (fun k h => by simp [Value.ownBlock] at h)
        refine ⟨_, _, _, rfl, ⟨hp2, Nat.le_refl _, hv1.setOther (hv1.ne_type hp1.out (by decide)) _, g1.setOther (g1.ne_type hp1.out (by decide)) _, ?_⟩, hb1.setCell (Nat.le_refl _) _⟩
        intro k h1 h2
        rcases g3 with g3 | ⟨g3, _⟩
        · rw [h2] at g3; simp [Value.ownBlock] at g3
        · rw [h2] at g3
          injection g3 with g3
          have := (hv.lt k h1).2
          simp at g3; omega

set_option maxRecDepth 100000 in
theorem giveI_any (w : World) (base p g c : Nat) (vw : Value) (full want : List Int) (n : Nat) (h : HandI w base p (.slice (some ⟨g, 0, none⟩) full.length c) vw full want n) (hn : n ≤ full.length) :
    Calls Tryd.prog 90 #[.pointer (some ⟨p, 0, none⟩)] w fun e w' => ∃ d, e = .returned (.slice (some ⟨g, 0, none⟩) n c) ∧ w' = w.drewN d := by
  have hcap := own_cap h.f
  have hmax : (c : Int) ≤ 9223372036854775807 := by have := hcap.2; unfold maxLen at this; omega
  have hc0 : w.cell? ⟨p, 0, none⟩ = some (.slice (some ⟨g, 0, none⟩) full.length c) := blk_cell h.blk 0
  have hc2 : w.cell? ⟨p, 2, none⟩ = some (.int .i64 (n : Nat)) := blk_cell h.blk 2
  have q1 : (n : Int) ≤ c := by omega
  have q2 : n ≤ c := by omega
  clear hcap
  go_enter Tryd.func90, Tryd.ntmps90
  go_wp2
  go_region
  go_wp2
  refine bodyPost_ret (results_tmp rfl _ _ _) ?_ ?_
  · rfl
  · exact ⟨1, rfl, rfl⟩

set_option maxRecDepth 100000 in
theorem isame_any (w : World) (base p : Nat) (vf vw : Value) (full want : List Int) (n : Nat) (h : HandI w base p vf vw full want n) (hl : full.length ≤ 1000000000000) (hm : want.length ≤ 1000000000000) :
    Calls Tryd.prog 92 #[.pointer (some ⟨p, 0, none⟩)] w fun e w' => ∃ d, e = .returned (.bool (decide (full = want))) ∧ w' = w.drewN d := by
  have hc0 : w.cell? ⟨p, 0, none⟩ = some vf := blk_cell h.blk 0
  have hc1 : w.cell? ⟨p, 1, none⟩ = some vw := blk_cell h.blk 1
  have HF := Lib.hid h.f
  have HG := Lib.hid h.g
  obtain ⟨a, N, c, rfl⟩ := own_sl h.f
  obtain ⟨a2, N2, c2, rfl⟩ := own_sl h.g
  clear h
  have K : ∀ d : Nat, Calls Tryd.prog 40 #[.slice a N c, .slice a2 N2 c2] (w.drewN d) fun e w' => e = .returned (.bool (decide (full = want))) ∧ ∃ k, w' = w.drewN k := fun d =>
    (same_any (w.drewN d) a a2 N N2 c c2 full want (HF.out.drewN d).rd (HG.out.drewN d).rd (by omega) (by omega)).mono fun e w' hh => ⟨hh.1, hh.2.elim fun k hk => ⟨d + k, by rw [hk]; simp [World.drewN, Nat.add_assoc]⟩⟩
  have HK := Lib.hid K
  clear K
  go_enter Tryd.func92, Tryd.ntmps92
  go_wp2
  go_quiet ((go_at_call 40; exact HK.out _))
  go_wp2
  go_ret
  exact ⟨_, rfl, rfl⟩

set_option maxRecDepth 100000 in
set_option maxHeartbeats 2000000 in
theorem spoilI_any (w : World) (base p : Nat) (vf vw : Value) (full want : List Int) (n : Nat) (h : HandI w base p vf vw full want n) (hn : n ≤ full.length) (hw : n ≤ want.length) (hmax : n ≤ 1000000000) :
    Calls Tryd.prog 93 #[.pointer (some ⟨p, 0, none⟩)] w fun e w' => e = .returned (.tuple #[]) ∧ Eff (fun k => vf.ownBlock = some k ∨ vw.ownBlock = some k) w w' := by
  obtain ⟨a, N, c, rfl⟩ := own_sl h.f
  obtain ⟨a2, N2, c2, rfl⟩ := own_sl h.g
  have hN := h.f.len
  have hN2 := h.g.len
  rw [intL_length] at hN hN2
  have hN1 : n ≤ N := by omega
  have hN3 : n ≤ N2 := by omega
  clear hN hN2
  go_enter Tryd.func93, Tryd.ntmps93
  go_wp2
  go_loopw [2] (fun s wr => ∃ (i : Nat) (f g : List Int), s = .int .i64 i ∧ i ≤ n ∧ f.length = N ∧ g.length = N2 ∧ HandI wr base p (.slice a N c) (.slice a2 N2 c2) f g n ∧ Eff (fun k => (Value.slice a N c).ownBlock = some k ∨ (Value.slice a2 N2 c2).ownBlock = some k) w wr) (fun s _ => n - (intOf s).toNat)
  case atStart => exact ⟨0, full, want, rfl, Nat.zero_le _, by have := h.f.len; rw [intL_length] at this; exact this.symm, by have := h.g.len; rw [intL_length] at this; exact this.symm, h, Eff.refl _ _⟩
  case round =>
    obtain ⟨i, full, want, rfl, hi, hfN, hgN, hh, heff⟩ := hrel
    have hc2 : wr.cell? ⟨p, 2, none⟩ = some (.int .i64 (n : Nat)) := blk_cell hh.blk 2
    by_cases hlt : i < n
    · obtain ⟨g, rfl⟩ := hh.f.someAt (by omega)
      obtain ⟨g2, rfl⟩ := hh.g.someAt (by omega)
      have hc0 : wr.cell? ⟨p, 0, none⟩ = some (.slice (some ⟨g, 0, none⟩) N c) := blk_cell hh.blk 0
      have hc1 : wr.cell? ⟨p, 1, none⟩ = some (.slice (some ⟨g2, 0, none⟩) N2 c2) := blk_cell hh.blk 1
      have hli : i < full.length := by omega
      have hli2 : i < want.length := by omega
      obtain ⟨x, hx⟩ : ∃ x, full[i] = x := ⟨_, rfl⟩
      have hcx : wr.cell? ⟨g, i, none⟩ = some (.int .i64 x) := by have := hh.f.get (intL_get _ _ hli); rwa [hx] at this
      have hcy := hh.g.get (intL_get _ _ hli2)
      have hf1 := hh.f.frozen i
      have hf2 := hh.g.frozen i
      have q1 : (i : Int) < N := by omega
      have q2 : (i : Int) < N2 := by omega
      have hpg : p ≠ g := fun e => hh.f.ne_type hh.blk (by decide) (by rw [e]; rfl)
      have hpg2 : p ≠ g2 := fun e => hh.g.ne_type hh.blk (by decide) (by rw [e]; rfl)
      have hgg : g ≠ g2 := fun e => hh.ne g rfl (by rw [e]; rfl)
      clear hx
      go_upto_region 3 with fail
      go_region
      obtain ⟨y, hy⟩ : ∃ y, bits .xor .i64 x (91 + (i : Int)) = y := ⟨_, rfl⟩
      rw [hy]
      have hfe : Own (wr.setCell ⟨g, i, none⟩ (.int .i64 y)) base 3 (.slice (some ⟨g, 0, none⟩) N c) (intL (full.set i y)) := own_to (hh.f.set i _) (by rw [intL_set])
      have hli3 : i < (full.set i y).length := by rw [List.length_set]; omega
      have hge : Own (wr.setCell ⟨g, i, none⟩ (.int .i64 y)) base 3 (.slice (some ⟨g2, 0, none⟩) N2 c2) (intL want) := hh.g.setOther (fun e => hgg (by simpa [Value.ownBlock] using e.symm)) _
      have hbl : (wr.setCell ⟨g, i, none⟩ (.int .i64 y)).heap[p]? = some (.cells #[.slice (some ⟨g, 0, none⟩) N c, .slice (some ⟨g2, 0, none⟩) N2 c2, .int .i64 (n : Nat)] 143 (0, 0)) := (Below.heap_setCell wr _ _ p hpg).trans hh.blk
      have heff1 := heff.setCell (p := ⟨g, i, none⟩) (fun _ => .inl rfl) (.int .i64 y)
      obtain ⟨W1, hW1⟩ : ∃ W1, W1 = (wr.setCell ⟨g, i, none⟩ (.int .i64 y)).drew := ⟨_, rfl⟩
      have hfe1 : Own W1 base 3 (.slice (some ⟨g, 0, none⟩) N c) (intL (full.set i y)) := by rw [hW1]; exact hfe.drew
      have hge1 : Own W1 base 3 (.slice (some ⟨g2, 0, none⟩) N2 c2) (intL want) := by rw [hW1]; exact hge.drew
      have hbl1 : W1.heap[p]? = some (.cells #[.slice (some ⟨g, 0, none⟩) N c, .slice (some ⟨g2, 0, none⟩) N2 c2, .int .i64 (n : Nat)] 143 (0, 0)) := by rw [hW1]; exact hbl
      have heff1' : Eff (fun k => (Value.slice (some ⟨g, 0, none⟩) N c).ownBlock = some k ∨ (Value.slice (some ⟨g2, 0, none⟩) N2 c2).ownBlock = some k) w W1 := by rw [hW1]; exact heff1.drew
      rw [← hW1]
      clear hW1 hfe hge hbl heff1 hc0 hc1 hc2 hcx hcy hf1 hf2 hy heff
      obtain ⟨hne0, hhp0⟩ := And.intro hh.ne hh.hp
      clear hh
      have hc0 : W1.cell? ⟨p, 0, none⟩ = some (.slice (some ⟨g, 0, none⟩) N c) := blk_cell hbl1 0
      have hc1 : W1.cell? ⟨p, 1, none⟩ = some (.slice (some ⟨g2, 0, none⟩) N2 c2) := blk_cell hbl1 1
      have hcx : W1.cell? ⟨g, i, none⟩ = some (.int .i64 y) := by have := hfe1.get (intL_get _ _ hli3); rwa [List.getElem_set_self] at this
      have hcy := hge1.get (intL_get _ _ hli2)
      have hf2 := hge1.frozen i
      have HB := Lib.hid hbl1
      clear hbl1
      go_upto_region 4 with fail
      go_region
      go_wp2
      go_roundw
      case rel =>
        refine ⟨i + 1, full.set i y, want.set i y, by go_num, by omega, by rw [List.length_set]; exact hfN, by rw [List.length_set]; exact hgN, ⟨(Below.heap_setCell W1 _ _ p hpg2).trans HB.out, hhp0, (hfe1.setOther (fun e => hgg (by simpa [Value.ownBlock] using e)) _).drew, own_to (hge1.set i _).drew (by rw [intL_set]), hne0⟩, (heff1'.setCell (p := ⟨g2, i, none⟩) (fun _ => .inr rfl) _).drew⟩
      case measure => simp [intOf]; omega
    · obtain rfl : i = n := by omega
      go_wp2
      go_end0
      exact ⟨rfl, heff⟩
end Go.Proofs.YtmmflhippbegaaaDoor
