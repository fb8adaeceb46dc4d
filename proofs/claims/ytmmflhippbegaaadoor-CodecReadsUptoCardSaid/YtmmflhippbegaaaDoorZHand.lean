/- concordhand: a list of bytes that is handed in with marked spare room: made, given, looked at, written over. -/
import Derived.Test.YtmmflhippbegaaaDoorZLib
import Derived.Test.YtmmflhippbegaaaDoorZUns
namespace Go.Proofs.YtmmflhippbegaaaDoor
set_option linter.unusedVariables false
open Go.ChangeShapes Go.WideShapes Go.ChangeAt Go.RowKit

def hmN (i : Nat) : UInt8 := UInt8.ofNat (201 + 7 * i)
def hms (n : Nat) : List UInt8 := (List.range n).map hmN
theorem hms_succ (n : Nat) : hms (n + 1) = hms n ++ [hmN n] := by simp [hms, List.range_succ]
theorem hms_length (n : Nat) : (hms n).length = n := by simp [hms]
/-- The hand of bytes at block p: the list full (with its marks) and what it should hold, want; n: how many are its own. -/
structure HandB (w : World) (base p : Nat) (vf vw : Value) (full want : List UInt8) (n : Nat) : Prop where
  blk : w.heap[p]? = some (.cells #[vf, vw, .int .i64 (n : Nat)] 101 (0, 0))
  hp : base ≤ p
  f : Own w base 5 vf (bytesV full)
  g : Own w base 5 vw (bytesV want)
  ne : ∀ k, vf.ownBlock = some k → vw.ownBlock ≠ some k

set_option maxRecDepth 100000 in
set_option maxHeartbeats 2000000 in
theorem hand_any (w : World) (a : Option Addr) (n c : Nat) (bs : List UInt8) (hr : Rd w (.slice a n c) (bytesV bs)) (hn : bs.length ≤ 1000000000) :
    Calls Tryd.prog 22 #[.slice a n c] w fun e w' => ∃ p vf vw, e = .returned (.pointer (some ⟨p, 0, none⟩)) ∧ HandB w' w.heap.size p vf vw (bs ++ hms 80) (bs ++ hms 80) bs.length ∧ Below w.heap.size w w' := by
  have hnl : n = bs.length := by obtain ⟨A, c', h, _⟩ := hr; injection h with _ h _; rw [h, bytesV_length]
  subst hnl
  have hbs : (bytesV bs).length ≤ 1000000000 := by rw [bytesV_length]; exact hn
  have hrW : Rd (w.alloc (.cells #[.slice none 0 0, .slice none 0 0, .int .i64 (bs.length : Nat)] 101)) (.slice a bs.length c) (bytesV bs) := hr.below ((Below.refl _ _).alloc (Nat.le_refl _) _) (Nat.le_refl _)
  have hpW : (w.alloc (.cells #[.slice none 0 0, .slice none 0 0, .int .i64 (bs.length : Nat)] 101)).heap[w.heap.size]? = some (.cells #[.slice none 0 0, .slice none 0 0, .int .i64 (bs.length : Nat)] 101 (0, 0)) := heap_alloc_new w _
  have hbW : Below w.heap.size w (w.alloc (.cells #[.slice none 0 0, .slice none 0 0, .int .i64 (bs.length : Nat)] 101)) := (Below.refl _ _).alloc (Nat.le_refl _) _
  have hnil : Own (w.alloc (.cells #[.slice none 0 0, .slice none 0 0, .int .i64 (bs.length : Nat)] 101)) w.heap.size 5 (.slice none 0 0) [] := own_nil _ _ _
  have hl0 : ([] : List Value).length + (bytesV bs).length < 1000000000001 := by simp; omega
  have HR := Lib.hid hrW; have HP := Lib.hid hpW; have HB := Lib.hid hbW; have HO := Lib.hid (bytesV_one bs)
  clear hrW hpW hbW hr
  go_enter Tryd.func22, Tryd.ntmps22
  go_wp2_with (at_builtin; with_reducible refine apN elBytes hnil HR.out HO.out hl0 (by simp) rfl _ _ rfl rfl rfl ?_)
  intro v' w1 g1 g2 g3 g4
  have hb1 : Below w.heap.size w w1 := HB.out.grown g4 (by simp) (fun k hk => by simp [Value.ownBlock] at hk)
  have hp1 : w1.heap[w.heap.size]? = some (.cells #[.slice none 0 0, .slice none 0 0, .int .i64 (bs.length : Nat)] 101 (0, 0)) := (g4.block _ (by simp) (by simp [Value.ownBlock])).trans HP.out
  obtain ⟨a1, n1, c1, rfl⟩ := own_sl g1
  have hc1 : w1.cell? ⟨w.heap.size, 0, none⟩ = some (.slice none 0 0) := blk_cell hp1 0
  have hf1 := blk_frozen hp1 0
  have hp2 := blk_set hp1 0 (.slice a1 n1 c1)
  have g1' := g1.setOther (p := ⟨w.heap.size, 0, none⟩) (g1.ne_type hp1 (by decide)) (.slice a1 n1 c1)
  have hb2 := hb1.setCell (p := ⟨w.heap.size, 0, none⟩) (Nat.le_refl _) (.slice a1 n1 c1)
  have HP2 := Lib.hid hp2
  clear hp1 hp2 g1 g2 g3 g4 hb1
  go_wp2
  go_loopw [4] (fun s wr => ∃ (i : Nat) (v : Value), s = .int .i64 i ∧ i ≤ 80 ∧ wr.heap[w.heap.size]? = some (.cells #[v, .slice none 0 0, .int .i64 (bs.length : Nat)] 101 (0, 0)) ∧ Own wr w.heap.size 5 v (bytesV (bs ++ hms i)) ∧ Below w.heap.size w wr) (fun s _ => 80 - (intOf s).toNat)
  case atStart => exact ⟨0, _, rfl, by omega, HP2.out, by simpa [hms] using g1', hb2⟩
  case round =>
    obtain ⟨i, v, rfl, hi, hp, hv, hb⟩ := hrel
    have hc0 : wr.cell? ⟨w.heap.size, 0, none⟩ = some v := blk_cell hp 0
    have hc1 : wr.cell? ⟨w.heap.size, 1, none⟩ = some (.slice none 0 0) := blk_cell hp 1
    obtain ⟨av, nv, cv, rfl⟩ := own_sl hv
    have HP := Lib.hid hp
    clear hp
    by_cases hlt : i < 80
    · have hl : (bytesV (bs ++ hms i)).length < 1000000000000 := by rw [bytesV_length, List.length_append, hms_length]; omega
      have hsz := hb.size
      go_wp2_with (at_builtin; with_reducible refine ap1' elBytes rfl hv hl hsz rfl _ _ rfl rfl rfl ?_)
      intro v' w1 g1 g2 g3 g4
      have hne := hv.ne_type HP.out (by decide)
      have hp1 : w1.heap[w.heap.size]? = some (.cells #[.slice av nv cv, .slice none 0 0, .int .i64 (bs.length : Nat)] 101 (0, 0)) := (g4.block _ (lt_of_heap HP.out) (fun e => hne e.symm)).trans HP.out
      have hb1 := hb.grown g4 hsz (fun k hk => (hv.lt k hk).1)
      obtain ⟨a1, n1, c1, rfl⟩ := own_sl g1
      have hc1 : w1.cell? ⟨w.heap.size, 0, none⟩ = some (.slice av nv cv) := blk_cell hp1 0
      have hf1 := blk_frozen hp1 0
      have hp2 := blk_set hp1 0 (.slice a1 n1 c1)
      have g1' := g1.setOther (p := ⟨w.heap.size, 0, none⟩) (g1.ne_type hp1 (by decide)) (.slice a1 n1 c1)
      have hb2 := hb1.setCell (p := ⟨w.heap.size, 0, none⟩) (Nat.le_refl _) (.slice a1 n1 c1)
      have HP2 := Lib.hid hp2
      clear hp1 hp2 g1 g2 g3 g4 hb1
      go_wp2
      go_roundw
      case rel => exact ⟨i + 1, _, by go_num, by omega, HP2.out, own_to g1' (by rw [hms_succ, ← List.append_assoc, bytesV_snoc]; rfl), hb2⟩
      case measure => simp [intOf]; omega
    · obtain rfl : i = 80 := by omega
      have hsz := hb.size
      have hnil2 : Own wr w.heap.size 5 (.slice none 0 0) [] := own_nil _ _ _
      have hl0 : ([] : List Value).length + (bytesV (bs ++ hms 80)).length < 1000000000001 := by rw [bytesV_length, List.length_append, hms_length]; simp; omega
      have HO2 := Lib.hid (bytesV_one (bs ++ hms 80))
      have hrd := hv.rd
      go_upto_region 7 with fail
      go_region_law (refine step_apN elBytes hnil2.drew hv.drew.rd HO2.out hl0 hsz rfl (.tmp 39) (.tmp 43) rfl rfl rfl ?_; intro v' w1 g1 g2 g3 g4; obtain ⟨a1, n1, c1, rfl⟩ := own_sl g1; have hp1 := Lib.hid ((g4.block _ (lt_of_heap HP.out) (by simp [Value.ownBlock])).trans HP.out); have hc1 : w1.cell? ⟨w.heap.size, 1, none⟩ = some (.slice none 0 0) := blk_cell hp1.out 1; have hf1 : w1.frozen? ⟨w.heap.size, 1, none⟩ = false := blk_frozen hp1.out 1)
      all_goals go_wp2
      all_goals go_ret
      all_goals
        have hp2 := blk_set hp1.out 1 (.slice a1 n1 c1)
        have hv1 := g2 _ _ _ _ hv.drew (fun k h => by simp [Value.ownBlock] at h)
        have hb1 : Below w.heap.size w w1 := hb.drew.grown g4 hsz (fun k h => by simp [Value.ownBlock] at h)
        refine ⟨_, _, _, rfl, ⟨hp2, Nat.le_refl _, hv1.setOther (hv1.ne_type hp1.out (by decide)) _, g1.setOther (g1.ne_type hp1.out (by decide)) _, ?_⟩, hb1.setCell (Nat.le_refl _) _⟩
        intro k h1 h2
        rcases g3 with g3 | ⟨g3, _⟩
        · rw [h2] at g3; simp [Value.ownBlock] at g3
        · rw [h2] at g3
          injection g3 with g3
          have := (hv.lt k h1).2
          simp at g3; omega

set_option maxRecDepth 100000 in
theorem give_any (w : World) (base p g c : Nat) (vw : Value) (full want : List UInt8) (n : Nat) (h : HandB w base p (.slice (some ⟨g, 0, none⟩) full.length c) vw full want n) (hn : n ≤ full.length) :
    Calls Tryd.prog 24 #[.pointer (some ⟨p, 0, none⟩)] w fun e w' => ∃ d, e = .returned (.slice (some ⟨g, 0, none⟩) n c) ∧ w' = w.drewN d := by
  have hcap := own_cap h.f
  have hmax : (c : Int) ≤ 9223372036854775807 := by have := hcap.2; unfold maxLen at this; omega
  have hc0 : w.cell? ⟨p, 0, none⟩ = some (.slice (some ⟨g, 0, none⟩) full.length c) := blk_cell h.blk 0
  have hc2 : w.cell? ⟨p, 2, none⟩ = some (.int .i64 (n : Nat)) := blk_cell h.blk 2
  have q1 : (n : Int) ≤ c := by omega
  have q2 : n ≤ c := by omega
  clear hcap
  go_enter Tryd.func24, Tryd.ntmps24
  go_wp2
  go_region
  go_wp2
  refine bodyPost_ret (results_tmp rfl _ _ _) ?_ ?_
  · rfl
  · exact ⟨1, rfl, rfl⟩

set_option maxRecDepth 100000 in
theorem bsame_any (w : World) (base p : Nat) (vf vw : Value) (full want : List UInt8) (n : Nat) (h : HandB w base p vf vw full want n) :
    Calls Tryd.prog 25 #[.pointer (some ⟨p, 0, none⟩)] w fun e w' => ∃ d, e = .returned (.bool (full == want)) ∧ w' = w.drewN d := by
  have hc0 : w.cell? ⟨p, 0, none⟩ = some vf := blk_cell h.blk 0
  have hc1 : w.cell? ⟨p, 1, none⟩ = some vw := blk_cell h.blk 1
  have r1 := run_str (P := Tryd.prog) Tryd.underlying37 Tryd.underlying5 Tryd.underlying9 h.f.drew.rd
  have r2 := run_str (P := Tryd.prog) Tryd.underlying37 Tryd.underlying5 Tryd.underlying9 h.g.drew.rd
  obtain ⟨a, N, c, rfl⟩ := own_sl h.f
  obtain ⟨a2, N2, c2, rfl⟩ := own_sl h.g
  go_enter Tryd.func25, Tryd.ntmps25
  go_wp2
  go_region
  go_wp2
  go_ret
  exact ⟨1, ret_bool (by rw [strOf_toList, strOf_toList]), rfl⟩

/-- What writing over makes of the first n bytes. -/
def spoilB (l : List UInt8) (i : Nat) : List UInt8 := (List.range i).foldl (fun l k => l.set k (l.getD k 0 ^^^ UInt8.ofNat (90 + k))) l
def copyB (f l : List UInt8) (i : Nat) : List UInt8 := (List.range i).foldl (fun l k => l.set k ((spoilB f (k + 1)).getD k 0)) l
theorem spoilB_succ (l : List UInt8) (i : Nat) : spoilB l (i + 1) = (spoilB l i).set i ((spoilB l i).getD i 0 ^^^ UInt8.ofNat (90 + i)) := by simp [spoilB, List.range_succ]
theorem copyB_succ (f l : List UInt8) (i : Nat) : copyB f l (i + 1) = (copyB f l i).set i ((spoilB f (i + 1)).getD i 0) := by simp [copyB, List.range_succ]
theorem spoilB_length (l : List UInt8) (i : Nat) : (spoilB l i).length = l.length := by
  induction i with
  | zero => rfl
  | succ i ih => rw [spoilB_succ, List.length_set, ih]
theorem copyB_length (f l : List UInt8) (i : Nat) : (copyB f l i).length = l.length := by
  induction i with
  | zero => rfl
  | succ i ih => rw [copyB_succ, List.length_set, ih]
theorem bytesV_set (l : List UInt8) (i : Nat) (x : UInt8) : bytesV (l.set i x) = (bytesV l).set i (.int .u8 ((x.toNat : Nat) : Int)) := by simp [bytesV, List.map_set]
theorem getD_get (l : List UInt8) (i : Nat) (h : i < l.length) : l.getD i 0 = l[i] := by simp [List.getD, h]

theorem u8_xor_i (x : UInt8) (i : Nat) : bits .xor .u8 ((x.toNat : Nat) : Int) ((90 + (i : Int)) % 256) = (((x ^^^ UInt8.ofNat (90 + i)).toNat : Nat) : Int) := by
  rw [show (90 + (i : Int)) % 256 = (((90 + i) % 256 : Nat) : Int) by omega, u8_xor_nat _ _ x.toNat_lt (by omega)]
  rw [UInt8.toNat_xor, UInt8.toNat_ofNat']

set_option maxRecDepth 100000 in
set_option maxHeartbeats 2000000 in
theorem spoil_any (w : World) (base p : Nat) (vf vw : Value) (full want : List UInt8) (n : Nat) (h : HandB w base p vf vw full want n) (hn : n ≤ full.length) (hw : n ≤ want.length) (hmax : n ≤ 1000000000) :
    Calls Tryd.prog 26 #[.pointer (some ⟨p, 0, none⟩)] w fun e w' => e = .returned (.tuple #[]) ∧ HandB w' base p vf vw (spoilB full n) (copyB full want n) n ∧ Eff (fun k => vf.ownBlock = some k ∨ vw.ownBlock = some k) w w' := by
  obtain ⟨a, N, c, rfl⟩ := own_sl h.f
  obtain ⟨a2, N2, c2, rfl⟩ := own_sl h.g
  have hN := h.f.len
  have hN2 := h.g.len
  rw [bytesV_length] at hN hN2
  have hN1 : n ≤ N := by omega
  have hN3 : n ≤ N2 := by omega
  clear hN hN2
  go_enter Tryd.func26, Tryd.ntmps26
  go_wp2
  go_loopw [2] (fun s wr => ∃ i : Nat, s = .int .i64 i ∧ i ≤ n ∧ HandB wr base p (.slice a N c) (.slice a2 N2 c2) (spoilB full i) (copyB full want i) n ∧ Eff (fun k => (Value.slice a N c).ownBlock = some k ∨ (Value.slice a2 N2 c2).ownBlock = some k) w wr) (fun s _ => n - (intOf s).toNat)
  case atStart => exact ⟨0, rfl, Nat.zero_le _, h, Eff.refl _ _⟩
  case round =>
    obtain ⟨i, rfl, hi, hh, heff⟩ := hrel
    have hc2 : wr.cell? ⟨p, 2, none⟩ = some (.int .i64 (n : Nat)) := blk_cell hh.blk 2
    by_cases hlt : i < n
    · obtain ⟨g, rfl⟩ := hh.f.someAt (by omega)
      obtain ⟨g2, rfl⟩ := hh.g.someAt (by omega)
      have hc0 : wr.cell? ⟨p, 0, none⟩ = some (.slice (some ⟨g, 0, none⟩) N c) := blk_cell hh.blk 0
      have hc1 : wr.cell? ⟨p, 1, none⟩ = some (.slice (some ⟨g2, 0, none⟩) N2 c2) := blk_cell hh.blk 1
      have hli : i < (spoilB full i).length := by rw [spoilB_length]; omega
      obtain ⟨x, hx⟩ : ∃ x, (spoilB full i)[i]'hli = x := ⟨_, rfl⟩
      have hcx : wr.cell? ⟨g, i, none⟩ = some (.int .u8 ((x.toNat : Nat) : Int)) := by have := hh.f.get (bytesV_get _ _ hli); rwa [hx] at this
      have hli2 : i < (copyB full want i).length := by rw [copyB_length]; omega
      have hcy := hh.g.get (bytesV_get _ _ hli2)
      have hf1 := hh.f.frozen i
      have hf2 := hh.g.frozen i
      have q1 : (i : Int) < N := by omega
      have q2 : (i : Int) < N2 := by omega
      have hpg : p ≠ g := fun e => hh.f.ne_type hh.blk (by decide) (by rw [e]; rfl)
      have hpg2 : p ≠ g2 := fun e => hh.g.ne_type hh.blk (by decide) (by rw [e]; rfl)
      have hgg : g ≠ g2 := fun e => hh.ne g rfl (by rw [e]; rfl)
      have HX := Lib.hid hx
      clear hx
      go_upto_region 3 with fail
      go_region
      have hy : bits .xor .u8 ((x.toNat : Nat) : Int) ((90 + (i : Int)) % 256) = (((x ^^^ UInt8.ofNat (90 + i)).toNat : Nat) : Int) := u8_xor_i x i
      rw [hy]
      have hfe : Own (wr.setCell ⟨g, i, none⟩ (.int .u8 (((x ^^^ UInt8.ofNat (90 + i)).toNat : Nat) : Int))) base 5 (.slice (some ⟨g, 0, none⟩) N c) (bytesV (spoilB full (i + 1))) := own_to (hh.f.set i _) (by rw [spoilB_succ, bytesV_set, getD_get _ _ hli, HX.out])
      have hli3 : i < (spoilB full (i + 1)).length := by rw [spoilB_length]; omega
      have hge : Own (wr.setCell ⟨g, i, none⟩ (.int .u8 (((x ^^^ UInt8.ofNat (90 + i)).toNat : Nat) : Int))) base 5 (.slice (some ⟨g2, 0, none⟩) N2 c2) (bytesV (copyB full want i)) := hh.g.setOther (fun e => hgg (by simpa [Value.ownBlock] using e.symm)) _
      have hbl : (wr.setCell ⟨g, i, none⟩ (.int .u8 (((x ^^^ UInt8.ofNat (90 + i)).toNat : Nat) : Int))).heap[p]? = some (.cells #[.slice (some ⟨g, 0, none⟩) N c, .slice (some ⟨g2, 0, none⟩) N2 c2, .int .i64 (n : Nat)] 101 (0, 0)) := (Below.heap_setCell wr _ _ p hpg).trans hh.blk
      have heff1 := heff.setCell (p := ⟨g, i, none⟩) (fun _ => .inl rfl) (.int .u8 (((x ^^^ UInt8.ofNat (90 + i)).toNat : Nat) : Int))
      obtain ⟨W1, hW1⟩ : ∃ W1, W1 = (wr.setCell ⟨g, i, none⟩ (.int .u8 (((x ^^^ UInt8.ofNat (90 + i)).toNat : Nat) : Int))).drew := ⟨_, rfl⟩
      have hfe1 : Own W1 base 5 (.slice (some ⟨g, 0, none⟩) N c) (bytesV (spoilB full (i + 1))) := by rw [hW1]; exact hfe.drew
      have hge1 : Own W1 base 5 (.slice (some ⟨g2, 0, none⟩) N2 c2) (bytesV (copyB full want i)) := by rw [hW1]; exact hge.drew
      have hbl1 : W1.heap[p]? = some (.cells #[.slice (some ⟨g, 0, none⟩) N c, .slice (some ⟨g2, 0, none⟩) N2 c2, .int .i64 (n : Nat)] 101 (0, 0)) := by rw [hW1]; exact hbl
      have heff1' : Eff (fun k => (Value.slice (some ⟨g, 0, none⟩) N c).ownBlock = some k ∨ (Value.slice (some ⟨g2, 0, none⟩) N2 c2).ownBlock = some k) w W1 := by rw [hW1]; exact heff1.drew
      rw [← hW1]
      clear hW1 hfe hge hbl heff1 hc0 hc1 hc2 hcx hcy hf1 hf2 hy heff
      obtain ⟨hne0, hhp0⟩ := And.intro hh.ne hh.hp
      clear hh
      have hc0 : W1.cell? ⟨p, 0, none⟩ = some (.slice (some ⟨g, 0, none⟩) N c) := blk_cell hbl1 0
      have hc1 : W1.cell? ⟨p, 1, none⟩ = some (.slice (some ⟨g2, 0, none⟩) N2 c2) := blk_cell hbl1 1
      have hcx := hfe1.get (bytesV_get _ _ hli3)
      have hcy := hge1.get (bytesV_get _ _ hli2)
      have hf2 := hge1.frozen i
      have HB := Lib.hid hbl1
      clear hbl1
      go_upto_region 4 with fail
      go_region
      go_wp2
      go_roundw
      case rel =>
        refine ⟨i + 1, by go_num, by omega, ⟨(Below.heap_setCell W1 _ _ p hpg2).trans HB.out, hhp0, (hfe1.setOther (fun e => hgg (by simpa [Value.ownBlock] using e)) _).drew, own_to (hge1.set i _).drew (by rw [copyB_succ, bytesV_set, getD_get _ _ hli3]), hne0⟩, (heff1'.setCell (p := ⟨g2, i, none⟩) (fun _ => .inr rfl) _).drew⟩
      case measure => simp [intOf]; omega
    · obtain rfl : i = n := by omega
      go_wp2
      go_end0
      exact ⟨rfl, hh, heff⟩
end Go.Proofs.YtmmflhippbegaaaDoor
