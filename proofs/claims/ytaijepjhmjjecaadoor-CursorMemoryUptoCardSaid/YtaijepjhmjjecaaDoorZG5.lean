/- Merged: ListV, Piece, RdP, Num, App, WPack. -/
import Derived.Test.YtaijepjhmjjecaaDoorZG3
import Derived.Test.YtaijepjhmjjecaaDoorZG4
import Derived.Test.YtaijepjhmjjecaaDoorZG4
import Derived.Test.YtaijepjhmjjecaaDoorZG2
import Derived.Test.YtaijepjhmjjecaaDoorZLib
import Derived.Test.YtaijepjhmjjecaaDoorProg
import Derived.Test.YtaijepjhmjjecaaDoorZG1
import Derived.Lib.AppendZerosOnto
import Derived.Lib.AppendStr
import Derived.RegionTactic
import Derived.ChangeAlike
import Derived.BigRegion
import Derived.Outline
/- posts: an opened List in memory; base, piece. -/
namespace Go.Proofs.YtaijepjhmjjecaaDoor
set_option linter.unusedVariables false
open Go.ChangeShapes Go.WideShapes Go.ChangeAt Go.RowKit

/-- A List at block p. -/
structure ListAt (w : World) (base p : Nat) (im sv : Value) (b : List UInt8) (n t : Nat) (SS : List SkV) : Prop where
  blk : w.heap[p]? = some (.cells #[im, .int .i64 (n : Nat), .int .i64 (t : Nat), sv] 115 (0, 0))
  hp : base ≤ p
  img : Own w base 5 im (bytesV b)
  sk : RowS w base sv SS
theorem ListAt.below {B : Nat} {w w' : World} {base p : Nat} {im sv : Value} {b : List UInt8} {n t : Nat} {SS : List SkV} (h : ListAt w base p im sv b n t SS) (hb : Below B w w') (hB : w.heap.size ≤ B) : ListAt w' base p im sv b n t SS :=
  ⟨(hb.block p (Nat.lt_of_lt_of_le (lt_of_heap h.blk) hB)).trans h.blk, h.hp, h.img.below hb hB, h.sk.below hb hB⟩
theorem ListAt.drewN {w : World} {base p : Nat} {im sv : Value} {b : List UInt8} {n t : Nat} {SS : List SkV} (h : ListAt w base p im sv b n t SS) (d : Nat) : ListAt (w.drewN d) base p im sv b n t SS := ⟨h.blk, h.hp, h.img.drewN d, h.sk⟩
theorem ListAt.mono {w : World} {base base' p : Nat} {im sv : Value} {b : List UInt8} {n t : Nat} {SS : List SkV} (h : ListAt w base p im sv b n t SS) (hb : base' ≤ base) : ListAt w base' p im sv b n t SS := by
  refine ⟨h.blk, Nat.le_trans hb h.hp, own_base h.img hb, h.sk.1, ?_⟩
  rcases h.sk.2 with hn | ⟨g, cap, cur, rfl, hbg, rest⟩
  · exact .inl hn
  · exact .inr ⟨g, cap, cur, rfl, Nat.le_trans hb hbg, rest⟩
theorem RowS.mono {w : World} {base base' : Nat} {v : Value} {ss : List SkV} (h : RowS w base v ss) (hb : base' ≤ base) : RowS w base' v ss := by
  refine ⟨h.1, ?_⟩
  rcases h.2 with hn | ⟨g, cap, cur, rfl, hbg, rest⟩
  · exact .inl hn
  · exact .inr ⟨g, cap, cur, rfl, Nat.le_trans hb hbg, rest⟩
theorem RowS.nil (w : World) (base : Nat) : RowS w base (.slice none 0 0) [] := ⟨rfl, .inl ⟨rfl, rfl⟩⟩
theorem RowS.frozen {w : World} {base g n c : Nat} {ss : List SkV} (h : RowS w base (.slice (some ⟨g, 0, none⟩) n c) ss) (j : Nat) : w.frozen? ⟨g, j, none⟩ = false := by
  rcases h.2 with ⟨hv, _⟩ | ⟨g', cap, cur, hv, _, hg, _⟩
  · cases hv
  · injection hv with e1
    injection e1 with e1
    injection e1 with e1
    subst e1
    exact blk_frozen hg j
theorem cells_set (FF : List SkV) (s : SkV) (r : List SkV) (x : Nat) : ((FF ++ s :: r).flatMap SkV.cells).set (FF.length * 4 + 2) (.int .i64 (x : Nat)) = (FF ++ ⟨s.last, s.docs, x, s.size⟩ :: r).flatMap SkV.cells := by
  have hl := flat4 FF
  rw [List.flatMap_append, List.flatMap_append, List.set_append_right _ _ (by omega), hl, Nat.add_sub_cancel_left, List.flatMap_cons, List.flatMap_cons]
  rfl
/-- A place told. -/
theorem RowS.setAt {w : World} {base g n c : Nat} {FF r : List SkV} {s : SkV} (h : RowS w base (.slice (some ⟨g, 0, none⟩) n c) (FF ++ s :: r)) (x : Nat) :
    RowS (w.setCell ⟨g, FF.length * 4 + 2, none⟩ (.int .i64 (x : Nat))) base (.slice (some ⟨g, 0, none⟩) n c) (FF ++ ⟨s.last, s.docs, x, s.size⟩ :: r) := by
  obtain ⟨_, _, e⟩ := h.sl
  injection e with _ e _
  subst e
  have h1 := (World.ownsRow.stored h (FF.length * 4 + 2) (.int .i64 (x : Nat))).1
  rw [cells_set] at h1
  have hl : (FF ++ (⟨s.last, s.docs, x, s.size⟩ : SkV) :: r).length = (FF ++ s :: r).length := by simp
  unfold RowS
  rw [hl]
  exact h1
/-- The document ahead of block k. -/
def lastS (SS : List SkV) : Int := (SS.map SkV.last).getLastD (-1)
theorem lastS_take (SS : List SkV) (k : Nat) (h : k < SS.length) : lastS (SS.take (k + 1)) = SS[k].last := by
  unfold lastS
  rw [List.take_succ_eq_append_getElem h, List.map_append]
  exact List.getLastD_concat ..
theorem base_any (w : World) (B p : Nat) (im sv : Value) (b : List UInt8) (n t : Nat) (SS : List SkV) (h : ListAt w B p im sv b n t SS) (k : Nat) (hk : k ≤ SS.length) (hl : SS.length ≤ 2000000000) :
    Calls Tryd.prog 78 #[.pointer (some ⟨p, 0, none⟩), .int .i64 (k : Nat)] w fun e w' => e = .returned (.int .i64 (lastS (SS.take k))) ∧ w = w' := by
  by_cases h0 : k = 0
  · subst h0
    go_enter Tryd.func78, Tryd.ntmps78
    go_wp2
    go_ret
    exact ⟨rfl, rfl⟩
  · obtain ⟨j, rfl⟩ : ∃ j, k = j + 1 := ⟨k - 1, by omega⟩
    obtain ⟨a, c, rfl⟩ := h.sk.sl
    obtain ⟨g, rfl, _, _, hc⟩ := h.sk.at_ j (by omega)
    have c3 : w.cell? ⟨p, 3, none⟩ = some (.slice (some ⟨g, 0, none⟩) SS.length c) := blk_cell h.blk 3
    have c0 : w.cell? ⟨g, j * 4, none⟩ = some (.int .i64 (SS[j]'(by omega)).last) := hc 0 _ rfl
    have t0 : (((j + 1 : Nat) : Int) == 0) = false := by simp; omega
    have s1 : IntKind.i64.wrap (((j + 1 : Nat) : Int) - 1) = (j : Int) := by rw [IntKind.wrap_i64]; omega
    have i1 : (j : Int) < (SS.length : Int) := by omega
    rw [lastS_take SS j (by omega)]
    obtain ⟨K, hK⟩ : ∃ K, j + 1 = K := ⟨_, rfl⟩
    rw [hK] at t0 s1 ⊢
    clear h hc hK
    go_enter Tryd.func78, Tryd.ntmps78
    go_wp2
    go_ret
    exact ⟨rfl, rfl⟩
end Go.Proofs.YtaijepjhmjjecaaDoor

/- posts: piece. -/
namespace Go.Proofs.YtaijepjhmjjecaaDoor
set_option linter.unusedVariables false
open Go.ChangeShapes Go.WideShapes Go.ChangeAt Go.RowKit

theorem rd_sub {w : World} {base : Nat} {g n c : Nat} {b : List UInt8} (h : Own w base 5 (.slice (some ⟨g, 0, none⟩) n c) (bytesV b)) (K S : Nat) (hK : K + S ≤ b.length) : Rd w (.slice (some ⟨g, K, none⟩) S S) (bytesV ((b.drop K).take S)) := by
  have hl : ((b.drop K).take S).length = S := by rw [List.length_take, List.length_drop]; omega
  refine ⟨some ⟨g, K, none⟩, S, by rw [bytesV_length, hl], by rw [bytesV_length, hl]; exact Nat.le_refl _, fun _ => ⟨g, K, rfl, fun j x hx => ?_⟩⟩
  have hj : j < S := by
    have := (List.getElem?_eq_some_iff.1 hx).1
    rwa [bytesV_length, hl] at this
  rw [bytesV_take, bytesV_drop, List.getElem?_take, if_pos hj, List.getElem?_drop] at hx
  exact h.get hx
theorem rd_sub0 {w : World} (A : Option Addr) {b : List UInt8} (K S : Nat) (hS : S = 0) : Rd w (.slice A S S) (bytesV ((b.drop K).take S)) := by
  subst hS
  rw [List.take_zero]
  exact ⟨A, 0, rfl, Nat.le_refl _, fun h => by simp [bytesV] at h⟩
set_option maxRecDepth 100000 in
theorem piece_any (w : World) (B p : Nat) (im sv : Value) (b : List UInt8) (n t : Nat) (SS : List SkV) (h : ListAt w B p im sv b n t SS) (hb : b.length ≤ 1000000000) (k : Nat) (hk : k < SS.length) (hl : SS.length ≤ 2000000000) (hsz : SS[k].at_ + SS[k].size ≤ b.length) :
    Calls Tryd.prog 77 #[.pointer (some ⟨p, 0, none⟩), .int .i64 (k : Nat)] w fun e w' => ∃ A N C, e = .returned (.slice A N C) ∧ Rd w' (.slice A N C) (bytesV ((b.drop SS[k].at_).take SS[k].size)) ∧ Below w.heap.size w w' := by
  obtain ⟨a, c, rfl⟩ := h.sk.sl
  obtain ⟨g, rfl, _, _, hc⟩ := h.sk.at_ k hk
  obtain ⟨ai, ni, ci, rfl⟩ := own_sl h.img
  have hni := h.img.len
  rw [bytesV_length] at hni
  subst hni
  have hcap := own_cap h.img
  obtain ⟨x, hx⟩ : ∃ x, SS[k] = x := ⟨_, rfl⟩
  rw [hx] at hc hsz ⊢
  obtain ⟨la, dc, at_, sz⟩ := x
  simp only at hsz ⊢
  have c0 : w.cell? ⟨g, k * 4, none⟩ = some (.int .i64 la) := hc 0 _ rfl
  have c1 : w.cell? ⟨g, k * 4 + 1, none⟩ = some (.int .i64 (dc : Nat)) := hc 1 _ rfl
  have c2 : w.cell? ⟨g, k * 4 + 2, none⟩ = some (.int .i64 (at_ : Nat)) := hc 2 _ rfl
  have c3 : w.cell? ⟨g, k * 4 + 3, none⟩ = some (.int .i64 (sz : Nat)) := hc 3 _ rfl
  have p3 : w.cell? ⟨p, 3, none⟩ = some (.slice (some ⟨g, 0, none⟩) SS.length c) := blk_cell h.blk 3
  have p0 : w.cell? ⟨p, 0, none⟩ = some (.slice ai b.length ci) := blk_cell h.blk 0
  have hpl := lt_of_heap h.blk
  have i1 : (k : Int) < (SS.length : Int) := by omega
  have hoA := h.img.alloc (.cells #[.int .i64 la, .int .i64 (dc : Nat), .int .i64 (at_ : Nat), .int .i64 (sz : Nat)] 117)
  have hbA := (Below.refl w.heap.size w).alloc (Nat.le_refl _) (.cells #[.int .i64 la, .int .i64 (dc : Nat), .int .i64 (at_ : Nat), .int .i64 (sz : Nat)] 117)
  have e1 := heap_alloc_new w (.cells #[.int .i64 la, .int .i64 (dc : Nat), .int .i64 (at_ : Nat), .int .i64 (sz : Nat)] 117)
  have p0A : (w.alloc (.cells #[.int .i64 la, .int .i64 (dc : Nat), .int .i64 (at_ : Nat), .int .i64 (sz : Nat)] 117)).cell? ⟨p, 0, none⟩ = some (.slice ai b.length ci) := (hbA.cell (p := ⟨p, 0, none⟩) hpl).trans p0
  have HOA := Lib.hid hoA
  have HBA := Lib.hid hbA
  have HE1 := Lib.hid e1
  have HP0 := Lib.hid p0A
  have hcm := hcap.2
  unfold maxLen at hcm
  have s1 : IntKind.i64.wrap ((at_ : Int) + (sz : Int)) = ((at_ + sz : Nat) : Int) := by rw [IntKind.wrap_i64]; omega
  have a1 : (at_ : Int) ≤ ((at_ + sz : Nat) : Int) := by omega
  have a2 : ((at_ + sz : Nat) : Int) ≤ (ci : Int) := by omega
  have hai : 0 < ci → ∃ gi, ai = some ⟨gi, 0, none⟩ := fun h0 => by
    rcases h.img.shape with ⟨h1, _⟩ | ⟨g', cap, hv, _⟩
    · injection h1 with _ _ h1; omega
    · injection hv with hv; exact ⟨g', hv⟩
  clear hoA hbA e1 p0A h hc hx p0
  go_enter Tryd.func77, Tryd.ntmps77
  go_upto_region 2 with fail
  generalize w.alloc (.cells #[.int .i64 la, .int .i64 (dc : Nat), .int .i64 (at_ : Nat), .int .i64 (sz : Nat)] 117) = W at HOA HBA HE1 HP0 ⊢
  have d2 := blk_cell HE1.out 2
  have d3 := blk_cell HE1.out 3
  have p0 := HP0.out
  generalize w.heap.size = GS at HE1 d2 d3 ⊢
  clear c0 c1 c2 c3 p3 i1 hpl
  by_cases hz : sz = 0
  · subst hz
    go_quiet (fail)
    all_goals
      go_wp2
      go_ret
      first
      | exact ⟨_, _, _, rfl, rd_sub0 _ at_ 0 rfl, below_drewN HBA.out _⟩
      | (simp only [Nat.add_zero, Nat.sub_self]; exact ⟨_, _, _, rfl, rd_sub0 _ at_ 0 rfl, below_drewN HBA.out _⟩)
  · obtain ⟨gi, rfl⟩ := hai (by omega)
    have hlt : at_ < ci := by omega
    have hnc : ¬ at_ + sz = at_ := by omega
    go_quiet (fail)
    all_goals
      go_wp2
      go_ret
      first
      | exact ⟨_, _, _, rfl, rd_sub (HOA.out.drewN _) at_ sz (by omega), below_drewN HBA.out _⟩
      | (simp only [Nat.add_sub_cancel_left]; exact ⟨_, _, _, rfl, rd_sub (HOA.out.drewN _) at_ sz (by omega), below_drewN HBA.out _⟩)
end Go.Proofs.YtaijepjhmjjecaaDoor

/- What a Reader answers, as functions of the bytes that are left. Errors by their numbers: 1 too short, 2 varint, 3 limit, 4 order, 8 range. No program occurs here. -/
namespace Go.Proofs.YtaijepjhmjjecaaDoor

def getB (l : List UInt8) : Except Nat (Nat × Nat) := match l with
  | [] => .error 1
  | x :: _ => .ok (x.toNat, 1)
def getUpto (most : Int) (l : List UInt8) : Except Nat (Nat × Nat) := match getU l with
  | .error n => .error n
  | .ok (u, k) => if most < u then .error 3 else .ok (u, k)
def getW (c : Nat) (l : List UInt8) : Except Nat (Nat × Nat) := if l.length < c then .error 1 else .ok (leN (l.take c), c)
def getRaw (n : Int) (l : List UInt8) : Except Nat (List UInt8 × Nat) :=
  if n < 0 then .error 8 else if (l.length : Int) < n then .error 1 else .ok (l.take n.toNat, n.toNat)
def getText (most : Int) (l : List UInt8) : Except Nat (List UInt8 × Nat) := match getUpto most l with
  | .error n => .error n
  | .ok (u, k) => if (l.drop k).length < u then .error 1 else .ok ((l.drop k).take u, k + u)
def getR : Nat → Int → List UInt8 → Except Nat (List Int × Nat)
  | 0, _, _ => .ok ([], 0)
  | n + 1, last, l => match getU l with
    | .error e => .error e
    | .ok (u, k) => if 9223372036854775806 - last < u then .error 3 else match getR n (last + u + 1) (l.drop k) with
      | .error e => .error e
      | .ok (r, j) => .ok ((last + u + 1) :: r, k + j)
def getRis (most : Int) (l : List UInt8) : Except Nat (List Int × Nat) := match getUpto most l with
  | .error n => .error n
  | .ok (n, k) => match getR n (-1) (l.drop k) with
    | .error e => .error e
    | .ok (r, j) => .ok (r, k + j)
/-- The numbers of n times w bits. -/
def unpack (w n N : Nat) : List Nat := (List.range n).map fun i => N / 2 ^ (w * i) % 2 ^ w
theorem unpack_length (w n N : Nat) : (unpack w n N).length = n := by simp [unpack]
theorem unpack_succ (w n N : Nat) : unpack w (n + 1) N = unpack w n N ++ [N / 2 ^ (w * n) % 2 ^ w] := by simp [unpack, List.range_succ]
theorem unpack_lt (w n N : Nat) : ∀ x ∈ unpack w n N, x < 2 ^ w := fun x hx => by
  obtain ⟨i, _, rfl⟩ := List.mem_map.1 hx
  exact Nat.mod_lt _ (Nat.two_pow_pos w)
/-- Behind the count n: the width, and the bits. -/
def getPB (n : Nat) (l : List UInt8) : Except Nat (List Nat × Nat) := match l with
  | [] => .error 1
  | x :: r =>
    if 63 < x.toNat ∨ (x.toNat = 0 ∧ 65536 < n) then .error 3
    else if 0 < x.toNat ∧ r.length * 8 / x.toNat < n then .error 1
    else if widL (unpack x.toNat n (leN (r.take ((n * x.toNat + 7) / 8)))) = x.toNat ∧ leN (r.take ((n * x.toNat + 7) / 8)) / 2 ^ (n * x.toNat) = 0
      then .ok (unpack x.toNat n (leN (r.take ((n * x.toNat + 7) / 8))), 1 + (n * x.toNat + 7) / 8)
    else .error 4
def getPk (most : Int) (l : List UInt8) : Except Nat (List Nat × Nat) := match getUpto most l with
  | .error n => .error n
  | .ok (n, k) => if n = 0 then .ok ([], k) else match getPB n (l.drop k) with
    | .error e => .error e
    | .ok (r, j) => .ok (r, k + j)

theorem getUpto_len {most : Int} {l : List UInt8} {u k : Nat} (h : getUpto most l = .ok (u, k)) : getU l = .ok (u, k) ∧ (u : Int) ≤ most := by
  unfold getUpto at h
  split at h
  · cases h
  · next u' k' e =>
    split at h
    · cases h
    · injection h with h
      injection h with h1 h2
      subst h1 h2
      exact ⟨e, by omega⟩
theorem packed_size {n w L : Nat} (hw : 0 < w) (h : ¬ L * 8 / w < n) : (n * w + 7) / 8 ≤ L := by
  have h1 : n ≤ L * 8 / w := by omega
  have h2 : n * w ≤ L * 8 := (Nat.le_div_iff_mul_le hw).1 h1
  omega
end Go.Proofs.YtaijepjhmjjecaaDoor

/- The walks of the functions on single numbers: Zig, Zag, UvarintLen, bits.Len64, and the document's Zig, Zag, Uvarint, Varint. -/
namespace Go.Proofs.YtaijepjhmjjecaaDoor
open Go.ChangeShapes Go.WideShapes Go.ChangeAt Go.RowKit

def zigI (v : Int) : Int := if 0 ≤ v then 2 * v else -2 * v - 1
theorem zigI_bd (v : Int) (h0 : -9223372036854775808 ≤ v) (h1 : v ≤ 9223372036854775807) : 0 ≤ zigI v ∧ zigI v ≤ 18446744073709551615 := by
  unfold zigI; split <;> omega
def zagI (u : Int) : Int := if u % 2 = 0 then u / 2 else -(u / 2) - 1
theorem zagI_bd (u : Int) (h0 : 0 ≤ u) (h1 : u ≤ 18446744073709551615) : -9223372036854775808 ≤ zagI u ∧ zagI u ≤ 9223372036854775807 := by
  unfold zagI; split <;> omega
theorem zag_zig (v : Int) : zagI (zigI v) = v := by
  unfold zagI zigI; split <;> split <;> omega
theorem zig_zag (u : Int) (h0 : 0 ≤ u) : zigI (zagI u) = u := by
  unfold zagI zigI; split <;> split <;> omega

theorem zig_bits (v : Int) (h0 : -9223372036854775808 ≤ v) (h1 : v ≤ 9223372036854775807) :
    bits .xor .u64 (IntKind.u64.wrap (IntKind.u64.wrap v * 2)) (IntKind.u64.wrap (v / 9223372036854775808)) = zigI v := by
  simp only [IntKind.wrap_u64]
  by_cases h : 0 ≤ v
  · rw [show v / 9223372036854775808 % 18446744073709551616 = 0 by omega, show v % 18446744073709551616 * 2 % 18446744073709551616 = 2 * v by omega, xor_zero _ (by omega) (by omega)]
    unfold zigI; rw [if_pos h]
  · rw [show v / 9223372036854775808 % 18446744073709551616 = 18446744073709551615 by omega, xor_ones _ (by omega) (by omega)]
    unfold zigI; rw [if_neg h]; omega
theorem zag_bits (v : Int) (h0 : 0 ≤ v) (h1 : v ≤ 18446744073709551615) :
    bits .xor .i64 (v / 2) (wrap64 (-wrap64 (bits .and .u64 v 1))) = zagI v := by
  unfold zagI
  rw [u64_and v 1 h0 (by omega) (by omega) (by omega), show (1 : Int).toNat = 1 from rfl, nat_mask1]
  obtain ⟨q, hq⟩ : ∃ q : BitVec 64, q = BitVec.ofInt 64 (v / 2) := ⟨_, rfl⟩
  have hq' : q.toNat = (v / 2).toNat := by rw [hq]; simp [BitVec.toNat_ofInt]; omega
  by_cases h : v % 2 = 0
  · rw [show ((v.toNat % 2 : Nat) : Int) = 0 by omega, if_pos h, xor_i64, ← hq, show wrap64 (-wrap64 0) = 0 by simp only [wrap64]; decide, show BitVec.ofInt 64 0 = 0#64 by decide, BitVec.xor_zero, wrap_i64_nat _ q.isLt, if_pos (by omega), hq']
    omega
  · rw [show ((v.toNat % 2 : Nat) : Int) = 1 by omega, if_neg h, xor_i64, ← hq, show wrap64 (-wrap64 1) = -1 by simp only [wrap64]; decide, show BitVec.ofInt 64 (-1) = BitVec.allOnes 64 by decide, BitVec.xor_allOnes, wrap_i64_nat _ (~~~q).isLt, BitVec.toNat_not, hq', if_neg (by omega)]
    omega

theorem len8_get (j : Nat) (hj : j < Lib.len8tab.size) : (Lib.len8tab[j]).toNat = Lib.bitLen j := by
  have h256 : j < 256 := by rw [Lib.len8tab_size] at hj; exact hj
  have h := Lib.len8_of (j : Int) (by omega) (by omega)
  unfold Lib.len8 at h
  rw [show ((j : Int)).toNat = j from rfl, getElem?_pos Lib.len8tab j hj] at h
  simp only [Option.getD_some] at h
  exact Int.ofNat.inj h
theorem len_close (s x j : Nat) (hj : j < Lib.len8tab.size) (e : j = x / 2 ^ s) (hb : 2 ^ s ≤ x) (hx : x < 2 ^ 64) (k : Int) (hk : k = s) (hs : s ≤ 56) :
    wrap64 (k + wrap64 ((Lib.len8tab[j]).toNat : Int)) = (Lib.bitLen x : Int) := by
  have h256 : j < 256 := by rw [Lib.len8tab_size] at hj; exact hj
  have l : Lib.bitLen j ≤ 8 := Lib.bitLen_le8 ⟨j, h256⟩
  rw [len8_get j hj, IntWalk.wrap64_in ((Lib.bitLen j : Nat) : Int) ⟨by omega, by omega⟩, IntWalk.wrap64_in _ ⟨by omega, by omega⟩, Lib.bitLen_shift s x hb hx, ← e]
  omega
theorem len_close0 (x j : Nat) (hj : j < Lib.len8tab.size) (e : j = x) :
    wrap64 (wrap64 ((Lib.len8tab[j]).toNat : Int)) = (Lib.bitLen x : Int) := by
  subst e
  have h256 : j < 256 := by rw [Lib.len8tab_size] at hj; exact hj
  have l : Lib.bitLen j ≤ 8 := Lib.bitLen_le8 ⟨j, h256⟩
  rw [len8_get j hj, IntWalk.wrap64_in ((Lib.bitLen j : Nat) : Int) ⟨by omega, by omega⟩, IntWalk.wrap64_in _ ⟨by omega, by omega⟩]
set_option maxHeartbeats 4000000 in
set_option maxRecDepth 100000 in
theorem len64_any (x : Int) (w : World) (h0 : 0 ≤ x) (h1 : x ≤ 18446744073709551615) :
    Calls Tryd.prog 99 #[.int .u64 x] w fun e w' => e = .returned (.int .i64 (Lib.bitLen x.toNat)) ∧ w = w' := by
  have hs : (256 : Int) ≤ (Lib.len8tab.size : Int) := by rw [Lib.len8tab_size]; decide
  go_enter Tryd.func99, Tryd.ntmps99
  go_wp2
  all_goals go_ret
  all_goals refine ⟨ret_int ?_, rfl⟩
  · exact len_close 56 x.toNat _ _ (by omega) (by omega) (by omega) _ (by omega) (by omega)
  · exact len_close 48 x.toNat _ _ (by omega) (by omega) (by omega) _ (by omega) (by omega)
  · exact len_close 40 x.toNat _ _ (by omega) (by omega) (by omega) _ (by omega) (by omega)
  · exact len_close 32 x.toNat _ _ (by omega) (by omega) (by omega) _ (by omega) (by omega)
  · exact len_close 24 x.toNat _ _ (by omega) (by omega) (by omega) _ (by omega) (by omega)
  · exact len_close 16 x.toNat _ _ (by omega) (by omega) (by omega) _ (by omega) (by omega)
  · exact len_close 8 x.toNat _ _ (by omega) (by omega) (by omega) _ (by omega) (by omega)
  · exact len_close0 x.toNat _ _ rfl
set_option maxRecDepth 100000 in
theorem ruvar_any (n : Nat) (w : World) (hn : (n : Int) ≤ 18446744073709551615) :
    Calls Tryd.prog 110 #[.int .u64 n] w fun e w' => ∃ v, e = .returned v ∧ Own w' w.heap.size 5 v (bytesV (uvar n)) ∧ Below w.heap.size w w' := by
  have hN : (uvar n).length ≤ 10 := (uvar_le n (by omega)).2
  go_enter Tryd.func110, Tryd.ntmps110
  go_wp2
  go_loopw [0, 3] (fun u b wr => ∃ (m : Nat) (acc : List UInt8), (m : Int) ≤ 18446744073709551615 ∧ u = .int .u64 m ∧ Own wr w.heap.size 5 b (bytesV acc) ∧ acc ++ uvar m = uvar n ∧ Below w.heap.size w wr) (fun u _ _ => (intOf u).toNat)
  case atStart => 
    exact ⟨n, [], hn, rfl, own_empty _ _ _ (Nat.le_refl _), rfl, (Below.refl _ _).alloc (Nat.le_refl _) _⟩
  case round =>
    obtain ⟨m, acc, hm, rfl, hown, hacc, hb⟩ := hrel
    have hl : acc.length + 1 ≤ 10 := by 
      have h1 := congrArg List.length hacc
      have := (uvar_le m (by omega)).1
      simp at h1; omega
    have HA := Lib.hid hacc; clear hacc
    have hb0 := hb.size
    have hl' : (bytesV acc).length < 1000000000000 := by rw [bytesV_length]; omega
    by_cases h128 : 128 ≤ (m : Int)
    · go_wp2_with (at_builtin; with_reducible refine ap1 elBytes rfl hown hl' hb0 rfl _ _ rfl rfl rfl ?_)
      intro v' w1 hown1 hg1
      go_wp2
      go_roundw
      case rel => 
        refine ⟨m / 128, acc ++ [UInt8.ofNat (128 + m % 128)], by omega, by go_num, by rw [bytesV_snoc]; exact own_last hown1 (by rw [u8_ofNat]; omega), ?_, hb.grown hg1 hb0 (fun k hk => (hown.lt k hk).1)⟩
        rw [← HA.out, uvar_big (n := m) (by omega)]; simp
      case measure => simp [intOf]; omega
    · go_wp2_with (at_builtin; with_reducible refine ap1 elBytes rfl hown hl' hb0 rfl _ _ rfl rfl rfl ?_)
      intro v' w1 hown1 hg1
      go_wp2
      go_ret
      refine ⟨_, rfl, ?_, hb.grown hg1 hb0 (fun k hk => (hown.lt k hk).1)⟩
      rw [← HA.out, uvar_small (n := m) (by omega), bytesV_snoc]; exact own_last hown1 (by rw [u8_ofNat]; omega)
end Go.Proofs.YtaijepjhmjjecaaDoor

/- append of a make (a number stands in the place of a slice) and of a string, onto an owned list. No program occurs here. -/
namespace Go.Proofs.YtaijepjhmjjecaaDoor
set_option linter.unusedVariables false
open Go.RowKit

/-- What an append leaves, whatever its source is, from its three ways. -/
theorem app_core {P : Program} {t e : TypeId} {z : Value} {bytes : Nat} (E : Elem P t e z bytes) {w : World} {base : Nat} {v : Value} {xs news : List Value} (run : Result Value)
    (hown : Own w base e v xs) (h1 : ∀ u ∈ news, u.oneCell' = true) (hlen : xs.length + news.length < 1000000000001) (hbase : base ≤ w.heap.size)
    (hnone : news = [] → run = .ok v w)
    (hnil : 0 < news.length → v = .slice none 0 0 → run = .ok (.slice (some ⟨w.heap.size, 0, none⟩) news.length (grownCap w news.length 0 e)) (w.drew.alloc (.cells (news.toArray ++ Builtin.zeroCells z.cells (grownCap w news.length 0 e - news.length)) e)))
    (hroom : ∀ g cap cur, 0 < news.length → v = .slice (some ⟨g, 0, none⟩) xs.length cap → w.heap[g]? = some (.cells cur e (0, 0)) → xs.length + news.length ≤ cap → xs.length + news.length ≤ cur.size →
      run = .ok (.slice (some ⟨g, 0, none⟩) (xs.length + news.length) cap) (w.setRow g (cur.toList.take xs.length ++ news ++ cur.toList.drop (xs.length + news.length)).toArray))
    (hgrow : ∀ g cap, 0 < news.length → v = .slice (some ⟨g, 0, none⟩) xs.length cap → (∀ j u, xs[j]? = some u → w.cell? ((⟨g, 0, none⟩ : Addr).add j) = some u) → cap < xs.length + news.length →
      run = .ok (.slice (some ⟨w.heap.size, 0, none⟩) (xs.length + news.length) (grownCap w (xs.length + news.length) cap e)) (w.drew.alloc (.cells (xs.toArray ++ news.toArray ++ Builtin.zeroCells z.cells (grownCap w (xs.length + news.length) cap e - (xs.length + news.length))) e))) :
    ∃ v' w', run = .ok v' w' ∧ Own w' base e v' (xs ++ news) ∧ Keeps w w' v xs.length ∧ w.grownBy w' v.ownBlock ∧
      (v'.ownBlock = v.ownBlock ∨ (v'.ownBlock = some w.heap.size ∧ Below w.heap.size w w')) := by
  have h63 : xs.length + news.length ≤ maxLen := by unfold maxLen; omega
  rcases Nat.eq_zero_or_pos news.length with h0 | hpos
  · have hn : news = [] := List.eq_nil_of_length_eq_zero h0
    exact ⟨v, w, hnone hn, by rw [hn]; simpa using hown, fun _ _ _ _ h _ => h, World.grownBy.refl w _, .inl rfl⟩
  · rcases hown with ⟨rfl, rfl⟩ | ⟨g, cap, cur, rfl, hbg, hg, hnc, hcs, hcm, ht⟩
    · refine ⟨_, _, hnil hpos rfl, ?_, keeps_below (below_new w _) _ _, ?_, .inr ⟨rfl, below_new w _⟩⟩
      · rw [List.nil_append]; exact app_new z E.zc news news.length 0 rfl (by simpa using h63) hbase
      · have := below_new w (.cells (news.toArray ++ Builtin.zeroCells z.cells (grownCap w news.length 0 e - news.length)) e)
        exact ⟨this.os, this.tape, this.output, this.size, fun k hk _ => this.block k hk⟩
    · by_cases hrm : xs.length + news.length ≤ cap
      · have hrow := setRow_heap w g cur (cur.toList.take xs.length ++ news ++ cur.toList.drop (xs.length + news.length)).toArray e (0, 0) hg
        have hsz : (cur.toList.take xs.length ++ news ++ cur.toList.drop (xs.length + news.length)).toArray.size = cur.size := by
          simp only [List.size_toArray, List.length_append, List.length_take, List.length_drop, Array.length_toList]; omega
        refine ⟨_, _, hroom g cap cur hpos rfl hg hrm (by omega), .inr ⟨g, cap, _, by rw [List.length_append], hbg, hrow, by rw [List.length_append]; exact hrm, by rw [hsz]; exact hcs, hcm, ?_⟩, ?_,
          ⟨rfl, rfl, rfl, by simp, fun k _ hk => setRow_other w g k _ (fun e => hk (by simp [Value.ownBlock, e]))⟩, .inl rfl⟩
        · rw [ht]; exact List.take_left
        · intro base' e' y ys hy hk
          rcases hy with hy | ⟨g', cap', cur', rfl, hb', hh', k1, k2, k3, k4⟩
          · exact .inl hy
          · by_cases eg : g' = g
            · subst eg
              rw [hg] at hh'
              injection hh' with hh'
              injection hh' with e1 e2
              subst e1 e2
              have hle := hk g' rfl rfl
              refine .inr ⟨g', cap', _, rfl, hb', hrow, k1, by rw [hsz]; exact k2, k3, ?_⟩
              rw [List.append_assoc, List.take_append_of_le_length (by have hcl : cur.toList.length = cur.size := Array.length_toList; rw [List.length_take]; omega), List.take_take, Nat.min_eq_left hle, k4]
            · exact .inr ⟨g', cap', cur', rfl, hb', (setRow_other w g g' _ eg).trans hh', k1, k2, k3, k4⟩
      · have holds : ∀ j u, xs[j]? = some u → w.cell? ((⟨g, 0, none⟩ : Addr).add j) = some u := fun j u hu => by
          rw [addr_add, Nat.zero_add, cell_of_row _ _ _ _ _ _ hg]; exact take_get ht hu
        have hn := app_new (w := w) (base := base) (e := e) z E.zc (xs ++ news) (xs.length + news.length) cap (by simp) h63 hbase
        rw [show (xs ++ news).toArray = xs.toArray ++ news.toArray by simp] at hn
        refine ⟨_, _, hgrow g cap hpos rfl holds (by omega), hn, keeps_below (below_new w _) _ _, ?_, .inr ⟨rfl, below_new w _⟩⟩
        · have := below_new w (.cells (xs.toArray ++ news.toArray ++ Builtin.zeroCells z.cells (grownCap w (xs.length + news.length) cap e - (xs.length + news.length))) e)
          exact ⟨this.os, this.tape, this.output, this.size, fun k hk _ => this.block k hk⟩

theorem zeroCells_one (z : Value) (hz : z.cells = #[z]) (n : Nat) : Builtin.zeroCells z.cells n = (List.replicate n z).toArray := by
  refine Array.ext (by simp [Builtin.zeroCells, hz]) fun i h1 h2 => ?_
  simp [Builtin.zeroCells, hz, Nat.mod_one]

/-- append(v, make([]T, n)...) -/
theorem run_app_zeros {P : Program} {t tn e : TypeId} {z : Value} {bytes : Nat} (E : Elem P t e z bytes) (htn : P.underlying tn = some (.int .i64)) (hzc : z.cells = #[z]) (hz1 : z.oneCell' = true) {w : World} {base : Nat} {v : Value} {xs : List Value} (ty : TypeId) (n : Nat)
    (hown : Own w base e v xs) (hlen : xs.length + n < 1000000000001) (hbase : base ≤ w.heap.size) :
    ∃ v' w', (Builtin.append_ #[t, tn] ty #[v, .int .i64 (n : Nat)]).run P w = .ok v' w' ∧ Own w' base e v' (xs ++ List.replicate n z) ∧ Keeps w w' v xs.length ∧ w.grownBy w' v.ownBlock ∧
      (v'.ownBlock = v.ownBlock ∨ (v'.ownBlock = some w.heap.size ∧ Below w.heap.size w w')) := by
  obtain ⟨i, hi, hz0, hi1, hz2⟩ := info_parts E.info
  have hbytes : (xs.length + n) * bytes ≤ 140737488355328 := Nat.le_trans (Nat.mul_le_mul (show xs.length + n ≤ 1000000000000 by omega) E.sm) (by decide)
  have hnb : n * bytes ≤ 140737488355328 := Nat.le_trans (Nat.mul_le_mul_right _ (by omega)) hbytes
  have hw : IntKind.i64.wrap (n : Int) = n := by rw [IntKind.wrap_i64]; omega
  have h48i : ¬ (281474976710656 < (n : Int) * (i.bytes : Int)) := by rw [hz2, ← Int.natCast_mul]; omega
  have hneg : ¬ ((n : Int) < 0) := by omega
  have hrl : (List.replicate n z).length = n := List.length_replicate
  refine app_core E _ hown (fun u hu => by rw [(List.mem_replicate.1 hu).2]; exact hz1) (by rw [hrl]; exact hlen) hbase ?_ ?_ ?_ ?_
  · intro h0
    have hn : n = 0 := by rw [← hrl, h0]; rfl
    subst hn
    have hw0 : IntKind.i64.wrap 0 = 0 := by rw [IntKind.wrap_i64]; rfl
    rcases hown.shape with ⟨rfl, rfl⟩ | ⟨g, cap, rfl, _, _, hc, _, _⟩
    · simp [Builtin.append_, run_underlying E.und, run_underlying htn, sizeOf, typeInfo, zeroValue, hi, asInt, asIntOf, hw0, Builtin.lenOf, Builtin.firstCells]
    · simp [Builtin.append_, run_underlying E.und, run_underlying htn, sizeOf, typeInfo, zeroValue, hi, asInt, asIntOf, hw0, Builtin.lenOf, Builtin.firstCells, hc, storeCells]
  · intro hp hv
    subst hv
    rw [hrl] at hp ⊢
    have := Lib.run_append_nil_zeros (P := P) w t tn ty e i z .i64 .i64 E.und htn hi hz0 n hp (by omega) (by omega) (by rw [hz2]; omega)
    rw [this, zeroCells_one z hzc n]
  · intro g cap cur hp hv hg hc hcs
    subst hv
    rw [hrl] at hp hc hcs ⊢
    have hst := run_storeCells_at P g xs.length e (List.replicate n z) 0 cur w hg (by simpa using hcs) (fun u hu => by rw [(List.mem_replicate.1 hu).2]; exact hz1)
    simp only [Nat.add_zero, hrl] at hst
    have hn0 : n ≠ 0 := by omega
    simp [Builtin.append_, run_underlying E.und, run_underlying htn, sizeOf, typeInfo, zeroValue, hi, hz0, hi1, asInt, asIntOf, hw, hneg, h48i, Builtin.lenOf, hc, hn0, zeroCells_one z hzc n, Addr.add_lit, hst]
  · intro g cap hp hv holds hc
    subst hv
    rw [hrl] at hp hc ⊢
    have hf := run_firstCells_some (P := P) w.drew i.size xs.length ⟨g, 0, none⟩ xs.length cap xs (by rw [hi1]; omega) (by simpa using holds)
    have := Lib.run_append_grow_zeros (P := P) w t tn ty e i z .i64 .i64 E.und htn hi hz0 _ xs.length cap xs hf n hp (by omega) hc (by omega) (by rw [hz2]; omega) (growslice_fits hc (by rw [hz2]; exact hbytes))
    rw [this, zeroCells_one z hzc n]

/-- append(v, s...), s a string -/
theorem run_app_string {P : Program} {t u e : TypeId} (E : Elem P t e (.int .u8 0) 1) (hu : P.underlying u = some .string) {w : World} {base : Nat} {v : Value} {xs : List Value} (ty : TypeId) (s : ByteArray)
    (hown : Own w base e v xs) (hlen : xs.length + s.size < 1000000000001) (hbase : base ≤ w.heap.size) :
    ∃ v' w', (Builtin.append_ #[t, u] ty #[v, .string s]).run P w = .ok v' w' ∧ Own w' base e v' (xs ++ bytesV s.data.toList) ∧ Keeps w w' v xs.length ∧ w.grownBy w' v.ownBlock ∧
      (v'.ownBlock = v.ownBlock ∨ (v'.ownBlock = some w.heap.size ∧ Below w.heap.size w w')) := by
  obtain ⟨i, hi, hz0, hi1, hz2⟩ := info_parts E.info
  have hsl : (bytesV s.data.toList).length = s.size := by rw [bytesV_length]; exact Array.length_toList
  have hcs : Lib.strCells s = bytesV s.data.toList := rfl
  refine app_core E _ hown (bytesV_one _) (by rw [hsl]; exact hlen) hbase ?_ ?_ ?_ ?_
  · intro h0
    have hn : s.size = 0 := by rw [← hsl, h0]; rfl
    have hd : s.data = #[] := Array.eq_empty_of_size_eq_zero hn
    rcases hown.shape with ⟨rfl, rfl⟩ | ⟨g, cap, rfl, _, _, hc, _, _⟩
    · simp [Builtin.append_, run_underlying E.und, run_underlying hu, sizeOf, typeInfo, hi, Builtin.lenOf, hn, Builtin.firstCells]
    · simp [Builtin.append_, run_underlying E.und, run_underlying hu, sizeOf, typeInfo, hi, Builtin.lenOf, hn, Builtin.firstCells, hc]
      simp [storeCells]
  · intro hp hv
    subst hv
    rw [hsl] at hp ⊢
    have := run_append_nil_string (P := P) w t u ty e i _ E.und hu hi hz0 s hp (by omega) (by rw [hz2]; omega)
    rw [this, show (bytesV s.data.toList).toArray = s.data.map (fun b => Value.int .u8 b.toNat) by apply Array.ext'; simp [bytesV]]
  · intro g cap cur hp hv hg hc hcs
    subst hv
    rw [hsl] at hp hc hcs ⊢
    exact Lib.run_append_room_string (P := P) w t u ty e i E.und hu hi hi1 g xs.length cap cur hg s hc hcs
  · intro g cap hp hv holds hc
    subst hv
    rw [hsl] at hp hc ⊢
    exact Lib.run_append_grow_string (P := P) w t u ty e i _ E.und hu hi hz0 ⟨g, 0, none⟩ xs.length cap xs (by rw [hi1]; omega) holds s hc (by omega) (growslice_fits hc (by rw [hz2]; omega))

/-- The same as laws of the walk. -/
theorem apZ {P : Program} {t tn e : TypeId} {z : Value} {bytes : Nat} (E : Elem P t e z bytes) (htn : P.underlying tn = some (.int .i64)) (hzc : z.cells = #[z]) (hz1 : z.oneCell' = true) {w : World} {base : Nat} {v : Value} {xs : List Value} {n : Nat}
    (hown : Own w base e v xs) (hlen : xs.length + n < 1000000000001) (hbase : base ≤ w.heap.size)
    {ops : Array Oper} {rest : List Oper} {o : Oper} {a : Act} {Q : Exit → Act → World → Prop} (hgd : o.guard = none) (x y : Operand)
    (ho : o.op = .call { callee := .builtin .append, args := #[x, y], argTypes := #[t, tn] }) (hx : a.eval x = v) (hy : a.eval y = .int .i64 (n : Nat))
    (h : ∀ v' w', Own w' base e v' (xs ++ List.replicate n z) → Keeps w w' v xs.length → (v'.ownBlock = v.ownBlock ∨ (v'.ownBlock = some w.heap.size ∧ Below w.heap.size w w')) → w.grownBy w' v.ownBlock → wpList P ops Q rest (a.put o.dst v') w') : wpList P ops Q (o :: rest) a w := by
  obtain ⟨v', w', hr, h2, h3, h4, h5⟩ := run_app_zeros E htn hzc hz1 o.type n hown hlen hbase
  exact Lib.wpList_append_run w hgd x y t tn ho _ _ hx hy v' w' hr (h v' w' h2 h3 h5 h4)
theorem apS {P : Program} {t u e : TypeId} (E : Elem P t e (.int .u8 0) 1) (hu : P.underlying u = some .string) {w : World} {base : Nat} {v : Value} {xs : List Value} {s : ByteArray}
    (hown : Own w base e v xs) (hlen : xs.length + s.size < 1000000000001) (hbase : base ≤ w.heap.size)
    {ops : Array Oper} {rest : List Oper} {o : Oper} {a : Act} {Q : Exit → Act → World → Prop} (hgd : o.guard = none) (x y : Operand)
    (ho : o.op = .call { callee := .builtin .append, args := #[x, y], argTypes := #[t, u] }) (hx : a.eval x = v) (hy : a.eval y = .string s)
    (h : ∀ v' w', Own w' base e v' (xs ++ bytesV s.data.toList) → Keeps w w' v xs.length → (v'.ownBlock = v.ownBlock ∨ (v'.ownBlock = some w.heap.size ∧ Below w.heap.size w w')) → w.grownBy w' v.ownBlock → wpList P ops Q rest (a.put o.dst v') w') : wpList P ops Q (o :: rest) a w := by
  obtain ⟨v', w', hr, h2, h3, h4, h5⟩ := run_app_string E hu o.type s hown hlen hbase
  exact Lib.wpList_append_run w hgd x y t u ho _ _ hx hy v' w' hr (h v' w' h2 h3 h5 h4)
end Go.Proofs.YtaijepjhmjjecaaDoor

/- codec.Writer: Byte; bits.Len; put. -/
namespace Go.Proofs.YtaijepjhmjjecaaDoor
set_option linter.unusedVariables false
open Go.ChangeShapes Go.WideShapes Go.ChangeAt Go.RowKit

theorem len_any (x : Int) (w : World) (h0 : 0 ≤ x) (h1 : x ≤ 18446744073709551615) :
    Calls Tryd.prog 72 #[.int .u64 x] w fun e w' => e = .returned (.int .i64 (Lib.bitLen x.toNat)) ∧ w = w' := by
  go_enter Tryd.func72, Tryd.ntmps72
  go_wp2_with fail
  refine (len64_any _ _ h0 h1).mono ?_
  rintro e w' ⟨rfl, rfl⟩
  go_wp2
  go_ret
  exact ⟨rfl, rfl⟩

theorem wbyte_any (w : World) (base p : Nat) (v : Value) (bs : List UInt8) (h : Wr w base p v bs) (hb : base ≤ w.heap.size) (hl : bs.length ≤ 100000000000) (x : UInt8) :
    Calls Tryd.prog 113 #[.pointer (some ⟨p, 0, none⟩), .int .u8 x.toNat] w fun e w' => e = .returned (.tuple #[]) ∧ ∃ v', Wr w' base p v' (bs ++ [x]) ∧ Wrote w w' p v v' := by
  have hl' : (bytesV bs).length < 1000000000000 := by rw [bytesV_length]; omega
  have hc := h.read
  have hown := h.own
  obtain ⟨av, nv, cv, rfl⟩ := own_sl hown
  go_enter Tryd.func113, Tryd.ntmps113
  go_wp2_with (at_builtin; with_reducible refine ap1' elBytes rfl hown hl' hb rfl _ _ rfl rfl rfl ?_)
  intro v1 w1 g1 g2 g3 g4
  obtain ⟨hc1, hf1⟩ := wr_cell h g4
  obtain ⟨a1, n1, c1, rfl⟩ := own_sl g1
  rw [← bytesV_snoc] at g1
  obtain ⟨hw2, hwr2⟩ := wr_app h g1 (g3.imp id (fun h => ⟨_, h.1, by omega⟩)) g4
  go_wp2
  go_end0
  exact ⟨rfl, _, hw2, hwr2⟩

theorem wrap64_mod (y : Int) : wrap64 y % 256 = y % 256 := by simp only [wrap64]; omega
theorem natMod256 (a : Nat) : (a : Int) % 256 = ((a % 256 : Nat) : Int) := by omega
theorem u8_val (n : Nat) (h : n < 256) : (((UInt8.ofNat n).toNat : Nat) : Int) = (n : Int) := by rw [u8_ofNat]; omega
/-- Byte j of the number M. -/
def byN (M j : Nat) : Nat := M / 256 ^ j % 256
theorem byN_lt (M j : Nat) : byN M j < 256 := Nat.mod_lt _ (by decide)

set_option maxRecDepth 100000 in
set_option maxHeartbeats 1000000 in
theorem wput_any (w : World) (base g c : Nat) (pre cs : List UInt8) (L C at_ wd x F S : Nat) (hF : pre.length = F) (hS : cs.length = S) (hown : Own w base 5 (.slice (some ⟨g, 0, none⟩) L C) (bytesV (pre ++ cs))) (hM : leN cs < 2 ^ at_) (hx : x < 2 ^ wd) (hw63 : wd ≤ 63) (hsz : at_ + wd ≤ 8 * cs.length) (hlen : pre.length + cs.length ≤ 100000000000) :
    Calls Tryd.prog 114 #[.slice (some ⟨g, F, none⟩) S c, .int .i64 at_, .int .i64 wd, .int .i64 x] w fun e w' => e = .returned (.tuple #[]) ∧ Own w' base 5 (.slice (some ⟨g, 0, none⟩) L C) (bytesV (pre ++ leB cs.length (leN cs + x * 2 ^ at_))) ∧ Eff (· = g) w w' := by
  subst hF hS
  have hM0 := Lib.hid hM
  clear hM
  go_enter Tryd.func114, Tryd.ntmps114
  go_wp2
  go_loopw [8] (fun s wr => ∃ d : Nat, s = .int .i64 d ∧ d ≤ 71 ∧ Own wr base 5 (.slice (some ⟨g, 0, none⟩) L C) (bytesV (pre ++ leB cs.length (leN cs + x % 2 ^ d * 2 ^ at_))) ∧ Eff (· = g) w wr) (fun s _ => 71 - (intOf s).toNat)
  case atStart => exact ⟨0, rfl, by omega, by simpa [Nat.mod_one, leB_leN] using hown, Eff.refl _ _⟩
  case round =>
    obtain ⟨d, rfl, hd, ho, he⟩ := hrel
    obtain ⟨j, k, hk, hjk⟩ : ∃ j k : Nat, k < 8 ∧ at_ + d = 8 * j + k := ⟨(at_ + d) / 8, (at_ + d) % 8, by omega, by omega⟩
    by_cases hlt : d < wd
    · have hj : j < cs.length := by omega
      have hget : (bytesV (pre ++ leB cs.length (leN cs + x % 2 ^ d * 2 ^ at_)))[pre.length + j]? = some (.int .u8 ((UInt8.ofNat ((leN cs + x % 2 ^ d * 2 ^ at_) / 256 ^ j % 256)).toNat : Nat)) := by
        unfold bytesV
        rw [List.getElem?_map, List.getElem?_append_right (by omega), Nat.add_sub_cancel_left, leB_get _ _ _ hj]; rfl
      have hc := ho.get hget
      have hfz := ho.frozen (pre.length + j)
      obtain ⟨m, hm⟩ : ∃ m, (leN cs + x % 2 ^ d * 2 ^ at_) / 256 ^ j % 256 = m := ⟨_, rfl⟩
      have hm2 : m < 256 := by rw [← hm]; exact Nat.mod_lt _ (by decide)
      rw [hm] at hc
      rw [show ((UInt8.ofNat m).toNat : Nat) = m by simp; omega] at hc
      have HM := Lib.hid hm
      have hset := ho.set (pre.length + j) (.int .u8 ((m ||| (x / 2 ^ d * 2 ^ k % 256) : Nat) : Int))
      have HS := Lib.hid hset
      have he2 := he.setCell (p := ⟨g, pre.length + j, none⟩) (fun _ => rfl) (.int .u8 ((m ||| (x / 2 ^ d * 2 ^ k % 256) : Nat) : Int))
      have q1 : ((at_ : Int) + d) % 8 = k := by omega
      have q2 : ((at_ : Int) + d) / 8 = j := by omega
      clear hget hm hset
      go_wp2
      go_region
      go_wp2
      go_roundw
      case rel =>
        have e1 : ((x : Int) / 2 ^ d * 2 ^ k) = ((x / 2 ^ d * 2 ^ k : Nat) : Int) := by simp
        have e2 : bits .or .u8 (m : Int) (wrap64 ((x : Int) / 2 ^ d * 2 ^ k) % 256) = ((m ||| (x / 2 ^ d * 2 ^ k % 256) : Nat) : Int) := by
          rw [e1, wrap64_mod, natMod256, u8_or_nat _ _ hm2 (Nat.mod_lt _ (by decide))]
        rw [e2]
        refine ⟨d + (8 - k), by go_num, by omega, ?_, he2.drew⟩
        have hM2 := put_step (leN cs) x at_ d k j hM0.out hjk hk
        rw [hM2, leB_or _ _ _ _ (Nat.mod_lt _ (by decide)) hj, HM.out]
        refine Own.drew (own_to HS.out ?_)
        unfold bytesV
        rw [List.map_append, List.map_append, List.set_append, if_neg (by simp), List.length_map, Nat.add_sub_cancel_left, List.map_set]
        congr 3
        have h8 : (m ||| (x / 2 ^ d * 2 ^ k % 256)) < 2 ^ 8 := Nat.or_lt_two_pow hm2 (Nat.mod_lt _ (by decide))
        exact (u8_val _ h8).symm
      case measure => simp [intOf]; omega
    · have hxd : x % 2 ^ d = x := Nat.mod_eq_of_lt (Nat.lt_of_lt_of_le hx (Nat.pow_le_pow_right (by decide) (by omega)))
      rw [hxd] at ho
      clear hxd
      go_wp2
      go_end0
      exact ⟨rfl, ho, he⟩
/-- Of a number of no bits nothing is laid. -/
theorem wput_none (w : World) (v : Value) (at_ wd x : Nat) (h : wd ≤ 0) :
    Calls Tryd.prog 114 #[v, .int .i64 at_, .int .i64 wd, .int .i64 x] w fun e w' => e = .returned (.tuple #[]) ∧ w = w' := by
  go_enter Tryd.func114, Tryd.ntmps114
  go_wp2
  go_loopw [8] (fun s wr => s = .int .i64 0 ∧ w = wr) (fun s _ => 0)
  case atStart => exact ⟨rfl, rfl⟩
  case round =>
    obtain ⟨rfl, rfl⟩ := hrel
    go_wp2
    go_end0
    exact ⟨rfl, rfl⟩
end Go.Proofs.YtaijepjhmjjecaaDoor
