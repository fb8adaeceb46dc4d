/- Merged: ListV, Piece, RdP, Num. -/
import Derived.Test.YthnpbfadblcicaaDoorZG3
import Derived.Test.YthnpbfadblcicaaDoorZReader
import Derived.Test.YthnpbfadblcicaaDoorZPRow
import Derived.Test.YthnpbfadblcicaaDoorZG4
import Derived.Test.YthnpbfadblcicaaDoorZG2
import Derived.Test.YthnpbfadblcicaaDoorZLib
import Derived.Test.YthnpbfadblcicaaDoorProg
import Derived.Test.YthnpbfadblcicaaDoorZG1
/- posts: an opened List in memory; base, piece. -/
namespace Go.Proofs.YthnpbfadblcicaaDoor
set_option linter.unusedVariables false
open Go.ChangeShapes Go.WideShapes Go.ChangeAt Go.RowKit

/-- A List at block p. -/
structure ListAt (w : World) (base p : Nat) (im sv : Value) (b : List UInt8) (n t : Nat) (SS : List SkV) : Prop where
  blk : w.heap[p]? = some (.cells #[im, .int .i64 (n : Nat), .int .i64 (t : Nat), sv] 83 (0, 0))
  hp : base ≤ p
  img : Own w base 5 im (bytesV b)
  sk : RowS w base sv SS
theorem ListAt.below {B : Nat} {w w' : World} {base p : Nat} {im sv : Value} {b : List UInt8} {n t : Nat} {SS : List SkV} (h : ListAt w base p im sv b n t SS) (hb : Below B w w') (hB : w.heap.size ≤ B) : ListAt w' base p im sv b n t SS :=
  ⟨(hb.block p (Nat.lt_of_lt_of_le (lt_of_heap h.blk) hB)).trans h.blk, h.hp, h.img.below hb hB, h.sk.below hb hB⟩
theorem ListAt.drewN {w : World} {base p : Nat} {im sv : Value} {b : List UInt8} {n t : Nat} {SS : List SkV} (h : ListAt w base p im sv b n t SS) (d : Nat) : ListAt (w.drewN d) base p im sv b n t SS := ⟨h.blk, h.hp, h.img.drewN d, h.sk⟩
theorem ListAt.mono {w : World} {base base' p : Nat} {im sv : Value} {b : List UInt8} {n t : Nat} {SS : List SkV} (h : ListAt w base p im sv b n t SS) (hb : base' ≤ base) : ListAt w base' p im sv b n t SS := by
  refine ⟨h.blk, Nat.le_trans hb h.hp, own_base h.img hb, h.sk.1, ?_⟩
  rcases h.sk.2 with hn | ⟨g, cap, cur, rfl, hbg, rest⟩
  · exact .inl hn
  · exact .inr ⟨g, cap, cur, rfl, Nat.le_trans hb hbg, rest⟩
theorem RowS.mono {w : World} {base base' : Nat} {v : Value} {ss : List SkV} (h : RowS w base v ss) (hb : base' ≤ base) : RowS w base' v ss := by
  refine ⟨h.1, ?_⟩
  rcases h.2 with hn | ⟨g, cap, cur, rfl, hbg, rest⟩
  · exact .inl hn
  · exact .inr ⟨g, cap, cur, rfl, Nat.le_trans hb hbg, rest⟩
theorem RowS.nil (w : World) (base : Nat) : RowS w base (.slice none 0 0) [] := ⟨rfl, .inl ⟨rfl, rfl⟩⟩
theorem RowS.frozen {w : World} {base g n c : Nat} {ss : List SkV} (h : RowS w base (.slice (some ⟨g, 0, none⟩) n c) ss) (j : Nat) : w.frozen? ⟨g, j, none⟩ = false := by
  rcases h.2 with ⟨hv, _⟩ | ⟨g', cap, cur, hv, _, hg, _⟩
  · cases hv
  · injection hv with e1
    injection e1 with e1
    injection e1 with e1
    subst e1
    exact blk_frozen hg j
theorem cells_set (FF : List SkV) (s : SkV) (r : List SkV) (x : Nat) : ((FF ++ s :: r).flatMap SkV.cells).set (FF.length * 4 + 2) (.int .i64 (x : Nat)) = (FF ++ ⟨s.last, s.docs, x, s.size⟩ :: r).flatMap SkV.cells := by
  have hl := flat4 FF
  rw [List.flatMap_append, List.flatMap_append, List.set_append_right _ _ (by omega), hl, Nat.add_sub_cancel_left, List.flatMap_cons, List.flatMap_cons]
  rfl
/-- A place told. -/
theorem RowS.setAt {w : World} {base g n c : Nat} {FF r : List SkV} {s : SkV} (h : RowS w base (.slice (some ⟨g, 0, none⟩) n c) (FF ++ s :: r)) (x : Nat) :
    RowS (w.setCell ⟨g, FF.length * 4 + 2, none⟩ (.int .i64 (x : Nat))) base (.slice (some ⟨g, 0, none⟩) n c) (FF ++ ⟨s.last, s.docs, x, s.size⟩ :: r) := by
  obtain ⟨_, _, e⟩ := h.sl
  injection e with _ e _
  subst e
  have h1 := (World.ownsRow.stored h (FF.length * 4 + 2) (.int .i64 (x : Nat))).1
  rw [cells_set] at h1
  have hl : (FF ++ (⟨s.last, s.docs, x, s.size⟩ : SkV) :: r).length = (FF ++ s :: r).length := by simp
  unfold RowS
  rw [hl]
  exact h1
/-- The document ahead of block k. -/
def lastS (SS : List SkV) : Int := (SS.map SkV.last).getLastD (-1)
theorem lastS_take (SS : List SkV) (k : Nat) (h : k < SS.length) : lastS (SS.take (k + 1)) = SS[k].last := by
  unfold lastS
  rw [List.take_succ_eq_append_getElem h, List.map_append]
  exact List.getLastD_concat ..
theorem base_any (w : World) (B p : Nat) (im sv : Value) (b : List UInt8) (n t : Nat) (SS : List SkV) (h : ListAt w B p im sv b n t SS) (k : Nat) (hk : k ≤ SS.length) (hl : SS.length ≤ 2000000000) :
    Calls Tryd.prog 44 #[.pointer (some ⟨p, 0, none⟩), .int .i64 (k : Nat)] w fun e w' => e = .returned (.int .i64 (lastS (SS.take k))) ∧ w = w' := by
  by_cases h0 : k = 0
  · subst h0
    go_enter Tryd.func44, Tryd.ntmps44
    go_wp2
    go_ret
    exact ⟨rfl, rfl⟩
  · obtain ⟨j, rfl⟩ : ∃ j, k = j + 1 := ⟨k - 1, by omega⟩
    obtain ⟨a, c, rfl⟩ := h.sk.sl
    obtain ⟨g, rfl, _, _, hc⟩ := h.sk.at_ j (by omega)
    have c3 : w.cell? ⟨p, 3, none⟩ = some (.slice (some ⟨g, 0, none⟩) SS.length c) := blk_cell h.blk 3
    have c0 : w.cell? ⟨g, j * 4, none⟩ = some (.int .i64 (SS[j]'(by omega)).last) := hc 0 _ rfl
    have t0 : (((j + 1 : Nat) : Int) == 0) = false := by simp; omega
    have s1 : IntKind.i64.wrap (((j + 1 : Nat) : Int) - 1) = (j : Int) := by rw [IntKind.wrap_i64]; omega
    have i1 : (j : Int) < (SS.length : Int) := by omega
    rw [lastS_take SS j (by omega)]
    obtain ⟨K, hK⟩ : ∃ K, j + 1 = K := ⟨_, rfl⟩
    rw [hK] at t0 s1 ⊢
    clear h hc hK
    go_enter Tryd.func44, Tryd.ntmps44
    go_wp2
    go_ret
    exact ⟨rfl, rfl⟩
end Go.Proofs.YthnpbfadblcicaaDoor

/- posts: piece. -/
namespace Go.Proofs.YthnpbfadblcicaaDoor
set_option linter.unusedVariables false
open Go.ChangeShapes Go.WideShapes Go.ChangeAt Go.RowKit

theorem rd_sub {w : World} {base : Nat} {g n c : Nat} {b : List UInt8} (h : Own w base 5 (.slice (some ⟨g, 0, none⟩) n c) (bytesV b)) (K S : Nat) (hK : K + S ≤ b.length) : Rd w (.slice (some ⟨g, K, none⟩) S S) (bytesV ((b.drop K).take S)) := by
  have hl : ((b.drop K).take S).length = S := by rw [List.length_take, List.length_drop]; omega
  refine ⟨some ⟨g, K, none⟩, S, by rw [bytesV_length, hl], by rw [bytesV_length, hl]; exact Nat.le_refl _, fun _ => ⟨g, K, rfl, fun j x hx => ?_⟩⟩
  have hj : j < S := by
    have := (List.getElem?_eq_some_iff.1 hx).1
    rwa [bytesV_length, hl] at this
  rw [bytesV_take, bytesV_drop, List.getElem?_take, if_pos hj, List.getElem?_drop] at hx
  exact h.get hx
theorem rd_sub0 {w : World} (A : Option Addr) {b : List UInt8} (K S : Nat) (hS : S = 0) : Rd w (.slice A S S) (bytesV ((b.drop K).take S)) := by
  subst hS
  rw [List.take_zero]
  exact ⟨A, 0, rfl, Nat.le_refl _, fun h => by simp [bytesV] at h⟩
set_option maxRecDepth 100000 in
theorem piece_any (w : World) (B p : Nat) (im sv : Value) (b : List UInt8) (n t : Nat) (SS : List SkV) (h : ListAt w B p im sv b n t SS) (hb : b.length ≤ 1000000000) (k : Nat) (hk : k < SS.length) (hl : SS.length ≤ 2000000000) (hsz : SS[k].at_ + SS[k].size ≤ b.length) :
    Calls Tryd.prog 43 #[.pointer (some ⟨p, 0, none⟩), .int .i64 (k : Nat)] w fun e w' => ∃ A N C, e = .returned (.slice A N C) ∧ Rd w' (.slice A N C) (bytesV ((b.drop SS[k].at_).take SS[k].size)) ∧ Below w.heap.size w w' := by
  obtain ⟨a, c, rfl⟩ := h.sk.sl
  obtain ⟨g, rfl, _, _, hc⟩ := h.sk.at_ k hk
  obtain ⟨ai, ni, ci, rfl⟩ := own_sl h.img
  have hni := h.img.len
  rw [bytesV_length] at hni
  subst hni
  have hcap := own_cap h.img
  obtain ⟨x, hx⟩ : ∃ x, SS[k] = x := ⟨_, rfl⟩
  rw [hx] at hc hsz ⊢
  obtain ⟨la, dc, at_, sz⟩ := x
  simp only at hsz ⊢
  have c0 : w.cell? ⟨g, k * 4, none⟩ = some (.int .i64 la) := hc 0 _ rfl
  have c1 : w.cell? ⟨g, k * 4 + 1, none⟩ = some (.int .i64 (dc : Nat)) := hc 1 _ rfl
  have c2 : w.cell? ⟨g, k * 4 + 2, none⟩ = some (.int .i64 (at_ : Nat)) := hc 2 _ rfl
  have c3 : w.cell? ⟨g, k * 4 + 3, none⟩ = some (.int .i64 (sz : Nat)) := hc 3 _ rfl
  have p3 : w.cell? ⟨p, 3, none⟩ = some (.slice (some ⟨g, 0, none⟩) SS.length c) := blk_cell h.blk 3
  have p0 : w.cell? ⟨p, 0, none⟩ = some (.slice ai b.length ci) := blk_cell h.blk 0
  have hpl := lt_of_heap h.blk
  have i1 : (k : Int) < (SS.length : Int) := by omega
  have hoA := h.img.alloc (.cells #[.int .i64 la, .int .i64 (dc : Nat), .int .i64 (at_ : Nat), .int .i64 (sz : Nat)] 45)
  have hbA := (Below.refl w.heap.size w).alloc (Nat.le_refl _) (.cells #[.int .i64 la, .int .i64 (dc : Nat), .int .i64 (at_ : Nat), .int .i64 (sz : Nat)] 45)
  have e1 := heap_alloc_new w (.cells #[.int .i64 la, .int .i64 (dc : Nat), .int .i64 (at_ : Nat), .int .i64 (sz : Nat)] 45)
  have p0A : (w.alloc (.cells #[.int .i64 la, .int .i64 (dc : Nat), .int .i64 (at_ : Nat), .int .i64 (sz : Nat)] 45)).cell? ⟨p, 0, none⟩ = some (.slice ai b.length ci) := (hbA.cell (p := ⟨p, 0, none⟩) hpl).trans p0
  have HOA := Lib.hid hoA
  have HBA := Lib.hid hbA
  have HE1 := Lib.hid e1
  have HP0 := Lib.hid p0A
  have hcm := hcap.2
  unfold maxLen at hcm
  have s1 : IntKind.i64.wrap ((at_ : Int) + (sz : Int)) = ((at_ + sz : Nat) : Int) := by rw [IntKind.wrap_i64]; omega
  have a1 : (at_ : Int) ≤ ((at_ + sz : Nat) : Int) := by omega
  have a2 : ((at_ + sz : Nat) : Int) ≤ (ci : Int) := by omega
  have hai : 0 < ci → ∃ gi, ai = some ⟨gi, 0, none⟩ := fun h0 => by
    rcases h.img.shape with ⟨h1, _⟩ | ⟨g', cap, hv, _⟩
    · injection h1 with _ _ h1; omega
    · injection hv with hv; exact ⟨g', hv⟩
  clear hoA hbA e1 p0A h hc hx p0
  go_enter Tryd.func43, Tryd.ntmps43
  go_upto_region 2 with fail
  generalize w.alloc (.cells #[.int .i64 la, .int .i64 (dc : Nat), .int .i64 (at_ : Nat), .int .i64 (sz : Nat)] 45) = W at HOA HBA HE1 HP0 ⊢
  have d2 := blk_cell HE1.out 2
  have d3 := blk_cell HE1.out 3
  have p0 := HP0.out
  generalize w.heap.size = GS at HE1 d2 d3 ⊢
  clear c0 c1 c2 c3 p3 i1 hpl
  by_cases hz : sz = 0
  · subst hz
    go_quiet (fail)
    all_goals
      go_wp2
      go_ret
      first
      | exact ⟨_, _, _, rfl, rd_sub0 _ at_ 0 rfl, below_drewN HBA.out _⟩
      | (simp only [Nat.add_zero, Nat.sub_self]; exact ⟨_, _, _, rfl, rd_sub0 _ at_ 0 rfl, below_drewN HBA.out _⟩)
  · obtain ⟨gi, rfl⟩ := hai (by omega)
    have hlt : at_ < ci := by omega
    have hnc : ¬ at_ + sz = at_ := by omega
    go_quiet (fail)
    all_goals
      go_wp2
      go_ret
      first
      | exact ⟨_, _, _, rfl, rd_sub (HOA.out.drewN _) at_ sz (by omega), below_drewN HBA.out _⟩
      | (simp only [Nat.add_sub_cancel_left]; exact ⟨_, _, _, rfl, rd_sub (HOA.out.drewN _) at_ sz (by omega), below_drewN HBA.out _⟩)
end Go.Proofs.YthnpbfadblcicaaDoor

/- What a Reader answers, as functions of the bytes that are left. Errors by their numbers: 1 too short, 2 varint, 3 limit, 4 order, 8 range. No program occurs here. -/
namespace Go.Proofs.YthnpbfadblcicaaDoor

def getB (l : List UInt8) : Except Nat (Nat × Nat) := match l with
  | [] => .error 1
  | x :: _ => .ok (x.toNat, 1)
def getUpto (most : Int) (l : List UInt8) : Except Nat (Nat × Nat) := match getU l with
  | .error n => .error n
  | .ok (u, k) => if most < u then .error 3 else .ok (u, k)
def getW (c : Nat) (l : List UInt8) : Except Nat (Nat × Nat) := if l.length < c then .error 1 else .ok (leN (l.take c), c)
def getRaw (n : Int) (l : List UInt8) : Except Nat (List UInt8 × Nat) :=
  if n < 0 then .error 8 else if (l.length : Int) < n then .error 1 else .ok (l.take n.toNat, n.toNat)
def getText (most : Int) (l : List UInt8) : Except Nat (List UInt8 × Nat) := match getUpto most l with
  | .error n => .error n
  | .ok (u, k) => if (l.drop k).length < u then .error 1 else .ok ((l.drop k).take u, k + u)
def getR : Nat → Int → List UInt8 → Except Nat (List Int × Nat)
  | 0, _, _ => .ok ([], 0)
  | n + 1, last, l => match getU l with
    | .error e => .error e
    | .ok (u, k) => if 9223372036854775806 - last < u then .error 3 else match getR n (last + u + 1) (l.drop k) with
      | .error e => .error e
      | .ok (r, j) => .ok ((last + u + 1) :: r, k + j)
def getRis (most : Int) (l : List UInt8) : Except Nat (List Int × Nat) := match getUpto most l with
  | .error n => .error n
  | .ok (n, k) => match getR n (-1) (l.drop k) with
    | .error e => .error e
    | .ok (r, j) => .ok (r, k + j)
/-- The numbers of n times w bits. -/
def unpack (w n N : Nat) : List Nat := (List.range n).map fun i => N / 2 ^ (w * i) % 2 ^ w
theorem unpack_length (w n N : Nat) : (unpack w n N).length = n := by simp [unpack]
theorem unpack_succ (w n N : Nat) : unpack w (n + 1) N = unpack w n N ++ [N / 2 ^ (w * n) % 2 ^ w] := by simp [unpack, List.range_succ]
theorem unpack_lt (w n N : Nat) : ∀ x ∈ unpack w n N, x < 2 ^ w := fun x hx => by
  obtain ⟨i, _, rfl⟩ := List.mem_map.1 hx
  exact Nat.mod_lt _ (Nat.two_pow_pos w)
/-- Behind the count n: the width, and the bits. -/
def getPB (n : Nat) (l : List UInt8) : Except Nat (List Nat × Nat) := match l with
  | [] => .error 1
  | x :: r =>
    if 63 < x.toNat ∨ (x.toNat = 0 ∧ 65536 < n) then .error 3
    else if 0 < x.toNat ∧ r.length * 8 / x.toNat < n then .error 1
    else if widL (unpack x.toNat n (leN (r.take ((n * x.toNat + 7) / 8)))) = x.toNat ∧ leN (r.take ((n * x.toNat + 7) / 8)) / 2 ^ (n * x.toNat) = 0
      then .ok (unpack x.toNat n (leN (r.take ((n * x.toNat + 7) / 8))), 1 + (n * x.toNat + 7) / 8)
    else .error 4
def getPk (most : Int) (l : List UInt8) : Except Nat (List Nat × Nat) := match getUpto most l with
  | .error n => .error n
  | .ok (n, k) => if n = 0 then .ok ([], k) else match getPB n (l.drop k) with
    | .error e => .error e
    | .ok (r, j) => .ok (r, k + j)

theorem getUpto_len {most : Int} {l : List UInt8} {u k : Nat} (h : getUpto most l = .ok (u, k)) : getU l = .ok (u, k) ∧ (u : Int) ≤ most := by
  unfold getUpto at h
  split at h
  · cases h
  · next u' k' e =>
    split at h
    · cases h
    · injection h with h
      injection h with h1 h2
      subst h1 h2
      exact ⟨e, by omega⟩
theorem packed_size {n w L : Nat} (hw : 0 < w) (h : ¬ L * 8 / w < n) : (n * w + 7) / 8 ≤ L := by
  have h1 : n ≤ L * 8 / w := by omega
  have h2 : n * w ≤ L * 8 := (Nat.le_div_iff_mul_le hw).1 h1
  omega
end Go.Proofs.YthnpbfadblcicaaDoor

/- The walks of the functions on single numbers: Zig, Zag, UvarintLen, bits.Len64, and the document's Zig, Zag, Uvarint, Varint. -/
namespace Go.Proofs.YthnpbfadblcicaaDoor
open Go.ChangeShapes Go.WideShapes Go.ChangeAt Go.RowKit

def zigI (v : Int) : Int := if 0 ≤ v then 2 * v else -2 * v - 1
theorem zigI_bd (v : Int) (h0 : -9223372036854775808 ≤ v) (h1 : v ≤ 9223372036854775807) : 0 ≤ zigI v ∧ zigI v ≤ 18446744073709551615 := by
  unfold zigI; split <;> omega
def zagI (u : Int) : Int := if u % 2 = 0 then u / 2 else -(u / 2) - 1
theorem zagI_bd (u : Int) (h0 : 0 ≤ u) (h1 : u ≤ 18446744073709551615) : -9223372036854775808 ≤ zagI u ∧ zagI u ≤ 9223372036854775807 := by
  unfold zagI; split <;> omega
theorem zag_zig (v : Int) : zagI (zigI v) = v := by
  unfold zagI zigI; split <;> split <;> omega
theorem zig_zag (u : Int) (h0 : 0 ≤ u) : zigI (zagI u) = u := by
  unfold zagI zigI; split <;> split <;> omega

theorem zig_bits (v : Int) (h0 : -9223372036854775808 ≤ v) (h1 : v ≤ 9223372036854775807) :
    bits .xor .u64 (IntKind.u64.wrap (IntKind.u64.wrap v * 2)) (IntKind.u64.wrap (v / 9223372036854775808)) = zigI v := by
  simp only [IntKind.wrap_u64]
  by_cases h : 0 ≤ v
  · rw [show v / 9223372036854775808 % 18446744073709551616 = 0 by omega, show v % 18446744073709551616 * 2 % 18446744073709551616 = 2 * v by omega, xor_zero _ (by omega) (by omega)]
    unfold zigI; rw [if_pos h]
  · rw [show v / 9223372036854775808 % 18446744073709551616 = 18446744073709551615 by omega, xor_ones _ (by omega) (by omega)]
    unfold zigI; rw [if_neg h]; omega
theorem zag_bits (v : Int) (h0 : 0 ≤ v) (h1 : v ≤ 18446744073709551615) :
    bits .xor .i64 (v / 2) (wrap64 (-wrap64 (bits .and .u64 v 1))) = zagI v := by
  unfold zagI
  rw [u64_and v 1 h0 (by omega) (by omega) (by omega), show (1 : Int).toNat = 1 from rfl, nat_mask1]
  obtain ⟨q, hq⟩ : ∃ q : BitVec 64, q = BitVec.ofInt 64 (v / 2) := ⟨_, rfl⟩
  have hq' : q.toNat = (v / 2).toNat := by rw [hq]; simp [BitVec.toNat_ofInt]; omega
  by_cases h : v % 2 = 0
  · rw [show ((v.toNat % 2 : Nat) : Int) = 0 by omega, if_pos h, xor_i64, ← hq, show wrap64 (-wrap64 0) = 0 by simp only [wrap64]; decide, show BitVec.ofInt 64 0 = 0#64 by decide, BitVec.xor_zero, wrap_i64_nat _ q.isLt, if_pos (by omega), hq']
    omega
  · rw [show ((v.toNat % 2 : Nat) : Int) = 1 by omega, if_neg h, xor_i64, ← hq, show wrap64 (-wrap64 1) = -1 by simp only [wrap64]; decide, show BitVec.ofInt 64 (-1) = BitVec.allOnes 64 by decide, BitVec.xor_allOnes, wrap_i64_nat _ (~~~q).isLt, BitVec.toNat_not, hq', if_neg (by omega)]
    omega

theorem len8_get (j : Nat) (hj : j < Lib.len8tab.size) : (Lib.len8tab[j]).toNat = Lib.bitLen j := by
  have h256 : j < 256 := by rw [Lib.len8tab_size] at hj; exact hj
  have h := Lib.len8_of (j : Int) (by omega) (by omega)
  unfold Lib.len8 at h
  rw [show ((j : Int)).toNat = j from rfl, getElem?_pos Lib.len8tab j hj] at h
  simp only [Option.getD_some] at h
  exact Int.ofNat.inj h
theorem len_close (s x j : Nat) (hj : j < Lib.len8tab.size) (e : j = x / 2 ^ s) (hb : 2 ^ s ≤ x) (hx : x < 2 ^ 64) (k : Int) (hk : k = s) (hs : s ≤ 56) :
    wrap64 (k + wrap64 ((Lib.len8tab[j]).toNat : Int)) = (Lib.bitLen x : Int) := by
  have h256 : j < 256 := by rw [Lib.len8tab_size] at hj; exact hj
  have l : Lib.bitLen j ≤ 8 := Lib.bitLen_le8 ⟨j, h256⟩
  rw [len8_get j hj, IntWalk.wrap64_in ((Lib.bitLen j : Nat) : Int) ⟨by omega, by omega⟩, IntWalk.wrap64_in _ ⟨by omega, by omega⟩, Lib.bitLen_shift s x hb hx, ← e]
  omega
theorem len_close0 (x j : Nat) (hj : j < Lib.len8tab.size) (e : j = x) :
    wrap64 (wrap64 ((Lib.len8tab[j]).toNat : Int)) = (Lib.bitLen x : Int) := by
  subst e
  have h256 : j < 256 := by rw [Lib.len8tab_size] at hj; exact hj
  have l : Lib.bitLen j ≤ 8 := Lib.bitLen_le8 ⟨j, h256⟩
  rw [len8_get j hj, IntWalk.wrap64_in ((Lib.bitLen j : Nat) : Int) ⟨by omega, by omega⟩, IntWalk.wrap64_in _ ⟨by omega, by omega⟩]
set_option maxHeartbeats 4000000 in
set_option maxRecDepth 100000 in
theorem len64_any (x : Int) (w : World) (h0 : 0 ≤ x) (h1 : x ≤ 18446744073709551615) :
    Calls Tryd.prog 76 #[.int .u64 x] w fun e w' => e = .returned (.int .i64 (Lib.bitLen x.toNat)) ∧ w = w' := by
  have hs : (256 : Int) ≤ (Lib.len8tab.size : Int) := by rw [Lib.len8tab_size]; decide
  go_enter Tryd.func76, Tryd.ntmps76
  go_wp2
  all_goals go_ret
  all_goals refine ⟨ret_int ?_, rfl⟩
  · exact len_close 56 x.toNat _ _ (by omega) (by omega) (by omega) _ (by omega) (by omega)
  · exact len_close 48 x.toNat _ _ (by omega) (by omega) (by omega) _ (by omega) (by omega)
  · exact len_close 40 x.toNat _ _ (by omega) (by omega) (by omega) _ (by omega) (by omega)
  · exact len_close 32 x.toNat _ _ (by omega) (by omega) (by omega) _ (by omega) (by omega)
  · exact len_close 24 x.toNat _ _ (by omega) (by omega) (by omega) _ (by omega) (by omega)
  · exact len_close 16 x.toNat _ _ (by omega) (by omega) (by omega) _ (by omega) (by omega)
  · exact len_close 8 x.toNat _ _ (by omega) (by omega) (by omega) _ (by omega) (by omega)
  · exact len_close0 x.toNat _ _ rfl
set_option maxRecDepth 100000 in
theorem ruvar_any (n : Nat) (w : World) (hn : (n : Int) ≤ 18446744073709551615) :
    Calls Tryd.prog 71 #[.int .u64 n] w fun e w' => ∃ v, e = .returned v ∧ Own w' w.heap.size 5 v (bytesV (uvar n)) ∧ Below w.heap.size w w' := by
  have hN : (uvar n).length ≤ 10 := (uvar_le n (by omega)).2
  go_enter Tryd.func71, Tryd.ntmps71
  go_wp2
  go_loopw [0, 3] (fun u b wr => ∃ (m : Nat) (acc : List UInt8), (m : Int) ≤ 18446744073709551615 ∧ u = .int .u64 m ∧ Own wr w.heap.size 5 b (bytesV acc) ∧ acc ++ uvar m = uvar n ∧ Below w.heap.size w wr) (fun u _ _ => (intOf u).toNat)
  case atStart => 
    exact ⟨n, [], hn, rfl, own_empty _ _ _ (Nat.le_refl _), rfl, (Below.refl _ _).alloc (Nat.le_refl _) _⟩
  case round =>
    obtain ⟨m, acc, hm, rfl, hown, hacc, hb⟩ := hrel
    have hl : acc.length + 1 ≤ 10 := by 
      have h1 := congrArg List.length hacc
      have := (uvar_le m (by omega)).1
      simp at h1; omega
    have HA := Lib.hid hacc; clear hacc
    have hb0 := hb.size
    have hl' : (bytesV acc).length < 1000000000000 := by rw [bytesV_length]; omega
    by_cases h128 : 128 ≤ (m : Int)
    · go_wp2_with (at_builtin; with_reducible refine ap1 elBytes rfl hown hl' hb0 rfl _ _ rfl rfl rfl ?_)
      intro v' w1 hown1 hg1
      go_wp2
      go_roundw
      case rel => 
        refine ⟨m / 128, acc ++ [UInt8.ofNat (128 + m % 128)], by omega, by go_num, by rw [bytesV_snoc]; exact own_last hown1 (by rw [u8_ofNat]; omega), ?_, hb.grown hg1 hb0 (fun k hk => (hown.lt k hk).1)⟩
        rw [← HA.out, uvar_big (n := m) (by omega)]; simp
      case measure => simp [intOf]; omega
    · go_wp2_with (at_builtin; with_reducible refine ap1 elBytes rfl hown hl' hb0 rfl _ _ rfl rfl rfl ?_)
      intro v' w1 hown1 hg1
      go_wp2
      go_ret
      refine ⟨_, rfl, ?_, hb.grown hg1 hb0 (fun k hk => (hown.lt k hk).1)⟩
      rw [← HA.out, uvar_small (n := m) (by omega), bytesV_snoc]; exact own_last hown1 (by rw [u8_ofNat]; omega)
end Go.Proofs.YthnpbfadblcicaaDoor
