/- Merged: ListV, Piece. -/
import Derived.Test.YthnpbfadblcicaaDoorZSkipV
import Derived.Test.YthnpbfadblcicaaDoorZReader
import Derived.Test.YthnpbfadblcicaaDoorZPRow
/- posts: an opened List in memory; base, piece. -/
namespace Go.Proofs.YthnpbfadblcicaaDoor
set_option linter.unusedVariables false
open Go.ChangeShapes Go.WideShapes Go.ChangeAt Go.RowKit

/-- A List at block p. -/
structure ListAt (w : World) (base p : Nat) (im sv : Value) (b : List UInt8) (n t : Nat) (SS : List SkV) : Prop where
  blk : w.heap[p]? = some (.cells #[im, .int .i64 (n : Nat), .int .i64 (t : Nat), sv] 83 (0, 0))
  hp : base ≤ p
  img : Own w base 5 im (bytesV b)
  sk : RowS w base sv SS
theorem ListAt.below {B : Nat} {w w' : World} {base p : Nat} {im sv : Value} {b : List UInt8} {n t : Nat} {SS : List SkV} (h : ListAt w base p im sv b n t SS) (hb : Below B w w') (hB : w.heap.size ≤ B) : ListAt w' base p im sv b n t SS :=
  ⟨(hb.block p (Nat.lt_of_lt_of_le (lt_of_heap h.blk) hB)).trans h.blk, h.hp, h.img.below hb hB, h.sk.below hb hB⟩
theorem ListAt.drewN {w : World} {base p : Nat} {im sv : Value} {b : List UInt8} {n t : Nat} {SS : List SkV} (h : ListAt w base p im sv b n t SS) (d : Nat) : ListAt (w.drewN d) base p im sv b n t SS := ⟨h.blk, h.hp, h.img.drewN d, h.sk⟩
theorem ListAt.mono {w : World} {base base' p : Nat} {im sv : Value} {b : List UInt8} {n t : Nat} {SS : List SkV} (h : ListAt w base p im sv b n t SS) (hb : base' ≤ base) : ListAt w base' p im sv b n t SS := by
  refine ⟨h.blk, Nat.le_trans hb h.hp, own_base h.img hb, h.sk.1, ?_⟩
  rcases h.sk.2 with hn | ⟨g, cap, cur, rfl, hbg, rest⟩
  · exact .inl hn
  · exact .inr ⟨g, cap, cur, rfl, Nat.le_trans hb hbg, rest⟩
theorem RowS.mono {w : World} {base base' : Nat} {v : Value} {ss : List SkV} (h : RowS w base v ss) (hb : base' ≤ base) : RowS w base' v ss := by
  refine ⟨h.1, ?_⟩
  rcases h.2 with hn | ⟨g, cap, cur, rfl, hbg, rest⟩
  · exact .inl hn
  · exact .inr ⟨g, cap, cur, rfl, Nat.le_trans hb hbg, rest⟩
theorem RowS.nil (w : World) (base : Nat) : RowS w base (.slice none 0 0) [] := ⟨rfl, .inl ⟨rfl, rfl⟩⟩
theorem RowS.frozen {w : World} {base g n c : Nat} {ss : List SkV} (h : RowS w base (.slice (some ⟨g, 0, none⟩) n c) ss) (j : Nat) : w.frozen? ⟨g, j, none⟩ = false := by
  rcases h.2 with ⟨hv, _⟩ | ⟨g', cap, cur, hv, _, hg, _⟩
  · cases hv
  · injection hv with e1
    injection e1 with e1
    injection e1 with e1
    subst e1
    exact blk_frozen hg j
theorem cells_set (FF : List SkV) (s : SkV) (r : List SkV) (x : Nat) : ((FF ++ s :: r).flatMap SkV.cells).set (FF.length * 4 + 2) (.int .i64 (x : Nat)) = (FF ++ ⟨s.last, s.docs, x, s.size⟩ :: r).flatMap SkV.cells := by
  have hl := flat4 FF
  rw [List.flatMap_append, List.flatMap_append, List.set_append_right _ _ (by omega), hl, Nat.add_sub_cancel_left, List.flatMap_cons, List.flatMap_cons]
  rfl
/-- A place told. -/
theorem RowS.setAt {w : World} {base g n c : Nat} {FF r : List SkV} {s : SkV} (h : RowS w base (.slice (some ⟨g, 0, none⟩) n c) (FF ++ s :: r)) (x : Nat) :
    RowS (w.setCell ⟨g, FF.length * 4 + 2, none⟩ (.int .i64 (x : Nat))) base (.slice (some ⟨g, 0, none⟩) n c) (FF ++ ⟨s.last, s.docs, x, s.size⟩ :: r) := by
  obtain ⟨_, _, e⟩ := h.sl
  injection e with _ e _
  subst e
  have h1 := (World.ownsRow.stored h (FF.length * 4 + 2) (.int .i64 (x : Nat))).1
  rw [cells_set] at h1
  have hl : (FF ++ (⟨s.last, s.docs, x, s.size⟩ : SkV) :: r).length = (FF ++ s :: r).length := by simp
  unfold RowS
  rw [hl]
  exact h1
/-- The document ahead of block k. -/
def lastS (SS : List SkV) : Int := (SS.map SkV.last).getLastD (-1)
theorem lastS_take (SS : List SkV) (k : Nat) (h : k < SS.length) : lastS (SS.take (k + 1)) = SS[k].last := by
  unfold lastS
  rw [List.take_succ_eq_append_getElem h, List.map_append]
  exact List.getLastD_concat ..
theorem base_any (w : World) (B p : Nat) (im sv : Value) (b : List UInt8) (n t : Nat) (SS : List SkV) (h : ListAt w B p im sv b n t SS) (k : Nat) (hk : k ≤ SS.length) (hl : SS.length ≤ 2000000000) :
    Calls Tryd.prog 44 #[.pointer (some ⟨p, 0, none⟩), .int .i64 (k : Nat)] w fun e w' => e = .returned (.int .i64 (lastS (SS.take k))) ∧ w = w' := by
  by_cases h0 : k = 0
  · subst h0
    go_enter Tryd.func44, Tryd.ntmps44
    go_wp2
    go_ret
    exact ⟨rfl, rfl⟩
  · obtain ⟨j, rfl⟩ : ∃ j, k = j + 1 := ⟨k - 1, by omega⟩
    obtain ⟨a, c, rfl⟩ := h.sk.sl
    obtain ⟨g, rfl, _, _, hc⟩ := h.sk.at_ j (by omega)
    have c3 : w.cell? ⟨p, 3, none⟩ = some (.slice (some ⟨g, 0, none⟩) SS.length c) := blk_cell h.blk 3
    have c0 : w.cell? ⟨g, j * 4, none⟩ = some (.int .i64 (SS[j]'(by omega)).last) := hc 0 _ rfl
    have t0 : (((j + 1 : Nat) : Int) == 0) = false := by simp; omega
    have s1 : IntKind.i64.wrap (((j + 1 : Nat) : Int) - 1) = (j : Int) := by rw [IntKind.wrap_i64]; omega
    have i1 : (j : Int) < (SS.length : Int) := by omega
    rw [lastS_take SS j (by omega)]
    obtain ⟨K, hK⟩ : ∃ K, j + 1 = K := ⟨_, rfl⟩
    rw [hK] at t0 s1 ⊢
    clear h hc hK
    go_enter Tryd.func44, Tryd.ntmps44
    go_wp2
    go_ret
    exact ⟨rfl, rfl⟩
end Go.Proofs.YthnpbfadblcicaaDoor

/- posts: piece. -/
namespace Go.Proofs.YthnpbfadblcicaaDoor
set_option linter.unusedVariables false
open Go.ChangeShapes Go.WideShapes Go.ChangeAt Go.RowKit

theorem rd_sub {w : World} {base : Nat} {g n c : Nat} {b : List UInt8} (h : Own w base 5 (.slice (some ⟨g, 0, none⟩) n c) (bytesV b)) (K S : Nat) (hK : K + S ≤ b.length) : Rd w (.slice (some ⟨g, K, none⟩) S S) (bytesV ((b.drop K).take S)) := by
  have hl : ((b.drop K).take S).length = S := by rw [List.length_take, List.length_drop]; omega
  refine ⟨some ⟨g, K, none⟩, S, by rw [bytesV_length, hl], by rw [bytesV_length, hl]; exact Nat.le_refl _, fun _ => ⟨g, K, rfl, fun j x hx => ?_⟩⟩
  have hj : j < S := by
    have := (List.getElem?_eq_some_iff.1 hx).1
    rwa [bytesV_length, hl] at this
  rw [bytesV_take, bytesV_drop, List.getElem?_take, if_pos hj, List.getElem?_drop] at hx
  exact h.get hx
theorem rd_sub0 {w : World} (A : Option Addr) {b : List UInt8} (K S : Nat) (hS : S = 0) : Rd w (.slice A S S) (bytesV ((b.drop K).take S)) := by
  subst hS
  rw [List.take_zero]
  exact ⟨A, 0, rfl, Nat.le_refl _, fun h => by simp [bytesV] at h⟩
set_option maxRecDepth 100000 in
theorem piece_any (w : World) (B p : Nat) (im sv : Value) (b : List UInt8) (n t : Nat) (SS : List SkV) (h : ListAt w B p im sv b n t SS) (hb : b.length ≤ 1000000000) (k : Nat) (hk : k < SS.length) (hl : SS.length ≤ 2000000000) (hsz : SS[k].at_ + SS[k].size ≤ b.length) :
    Calls Tryd.prog 43 #[.pointer (some ⟨p, 0, none⟩), .int .i64 (k : Nat)] w fun e w' => ∃ A N C, e = .returned (.slice A N C) ∧ Rd w' (.slice A N C) (bytesV ((b.drop SS[k].at_).take SS[k].size)) ∧ Below w.heap.size w w' := by
  obtain ⟨a, c, rfl⟩ := h.sk.sl
  obtain ⟨g, rfl, _, _, hc⟩ := h.sk.at_ k hk
  obtain ⟨ai, ni, ci, rfl⟩ := own_sl h.img
  have hni := h.img.len
  rw [bytesV_length] at hni
  subst hni
  have hcap := own_cap h.img
  obtain ⟨x, hx⟩ : ∃ x, SS[k] = x := ⟨_, rfl⟩
  rw [hx] at hc hsz ⊢
  obtain ⟨la, dc, at_, sz⟩ := x
  simp only at hsz ⊢
  have c0 : w.cell? ⟨g, k * 4, none⟩ = some (.int .i64 la) := hc 0 _ rfl
  have c1 : w.cell? ⟨g, k * 4 + 1, none⟩ = some (.int .i64 (dc : Nat)) := hc 1 _ rfl
  have c2 : w.cell? ⟨g, k * 4 + 2, none⟩ = some (.int .i64 (at_ : Nat)) := hc 2 _ rfl
  have c3 : w.cell? ⟨g, k * 4 + 3, none⟩ = some (.int .i64 (sz : Nat)) := hc 3 _ rfl
  have p3 : w.cell? ⟨p, 3, none⟩ = some (.slice (some ⟨g, 0, none⟩) SS.length c) := blk_cell h.blk 3
  have p0 : w.cell? ⟨p, 0, none⟩ = some (.slice ai b.length ci) := blk_cell h.blk 0
  have hpl := lt_of_heap h.blk
  have i1 : (k : Int) < (SS.length : Int) := by omega
  have hoA := h.img.alloc (.cells #[.int .i64 la, .int .i64 (dc : Nat), .int .i64 (at_ : Nat), .int .i64 (sz : Nat)] 45)
  have hbA := (Below.refl w.heap.size w).alloc (Nat.le_refl _) (.cells #[.int .i64 la, .int .i64 (dc : Nat), .int .i64 (at_ : Nat), .int .i64 (sz : Nat)] 45)
  have e1 := heap_alloc_new w (.cells #[.int .i64 la, .int .i64 (dc : Nat), .int .i64 (at_ : Nat), .int .i64 (sz : Nat)] 45)
  have p0A : (w.alloc (.cells #[.int .i64 la, .int .i64 (dc : Nat), .int .i64 (at_ : Nat), .int .i64 (sz : Nat)] 45)).cell? ⟨p, 0, none⟩ = some (.slice ai b.length ci) := (hbA.cell (p := ⟨p, 0, none⟩) hpl).trans p0
  have HOA := Lib.hid hoA
  have HBA := Lib.hid hbA
  have HE1 := Lib.hid e1
  have HP0 := Lib.hid p0A
  have hcm := hcap.2
  unfold maxLen at hcm
  have s1 : IntKind.i64.wrap ((at_ : Int) + (sz : Int)) = ((at_ + sz : Nat) : Int) := by rw [IntKind.wrap_i64]; omega
  have a1 : (at_ : Int) ≤ ((at_ + sz : Nat) : Int) := by omega
  have a2 : ((at_ + sz : Nat) : Int) ≤ (ci : Int) := by omega
  have hai : 0 < ci → ∃ gi, ai = some ⟨gi, 0, none⟩ := fun h0 => by
    rcases h.img.shape with ⟨h1, _⟩ | ⟨g', cap, hv, _⟩
    · injection h1 with _ _ h1; omega
    · injection hv with hv; exact ⟨g', hv⟩
  clear hoA hbA e1 p0A h hc hx p0
  go_enter Tryd.func43, Tryd.ntmps43
  go_upto_region 2 with fail
  generalize w.alloc (.cells #[.int .i64 la, .int .i64 (dc : Nat), .int .i64 (at_ : Nat), .int .i64 (sz : Nat)] 45) = W at HOA HBA HE1 HP0 ⊢
  have d2 := blk_cell HE1.out 2
  have d3 := blk_cell HE1.out 3
  have p0 := HP0.out
  generalize w.heap.size = GS at HE1 d2 d3 ⊢
  clear c0 c1 c2 c3 p3 i1 hpl
  by_cases hz : sz = 0
  · subst hz
    go_quiet (fail)
    all_goals
      go_wp2
      go_ret
      first
      | exact ⟨_, _, _, rfl, rd_sub0 _ at_ 0 rfl, below_drewN HBA.out _⟩
      | (simp only [Nat.add_zero, Nat.sub_self]; exact ⟨_, _, _, rfl, rd_sub0 _ at_ 0 rfl, below_drewN HBA.out _⟩)
  · obtain ⟨gi, rfl⟩ := hai (by omega)
    have hlt : at_ < ci := by omega
    have hnc : ¬ at_ + sz = at_ := by omega
    go_quiet (fail)
    all_goals
      go_wp2
      go_ret
      first
      | exact ⟨_, _, _, rfl, rd_sub (HOA.out.drewN _) at_ sz (by omega), below_drewN HBA.out _⟩
      | (simp only [Nat.add_sub_cancel_left]; exact ⟨_, _, _, rfl, rd_sub (HOA.out.drewN _) at_ sz (by omega), below_drewN HBA.out _⟩)
end Go.Proofs.YthnpbfadblcicaaDoor
